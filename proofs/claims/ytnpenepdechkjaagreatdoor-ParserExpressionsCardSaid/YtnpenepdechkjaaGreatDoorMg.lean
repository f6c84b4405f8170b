/- The reference: its tests on bytes, and its dates. -/
import Derived.Test.YtnpenepdechkjaaGreatDoorMa
import Derived.Test.YtnpenepdechkjaaGreatDoorMe
namespace Go.Proofs.YtnpenepdechkjaaGreatDoor
open Go Go.RowKit

theorem rletter_any (c : UInt8) (w : World) : Calls Tryz.prog 120 #[.int .u8 (c.toNat : Int)] w (BQ (low c) w) := by
  by_cases h1 : 97 ≤ c.toNat
  · have g1 : 97 ≤ (c.toNat : Int) := by omega
    by_cases h2 : c.toNat ≤ 122
    · have HF := Lib.hid (show low c = true by simp [low, h1, h2])
      have g2 : (c.toNat : Int) ≤ 122 := by omega
      clear h1 h2
      go_enter Tryz.func120, Tryz.ntmps120
      go_wp2
      go_ret
      exact ⟨ret_bool (by rw [HF.out]), rfl⟩
    · have HF := Lib.hid (show low c = false by simp [low, h2])
      have g2 : ¬ (c.toNat : Int) ≤ 122 := by omega
      clear h1 h2
      go_enter Tryz.func120, Tryz.ntmps120
      go_wp2
      go_ret
      exact ⟨ret_bool (by rw [HF.out]), rfl⟩
  · have HF := Lib.hid (show low c = false by simp [low, h1])
    have g1 : ¬ 97 ≤ (c.toNat : Int) := by omega
    clear h1
    go_enter Tryz.func120, Tryz.ntmps120
    go_wp2
    go_ret
    exact ⟨ret_bool (by rw [HF.out]), rfl⟩
theorem rdigit_any (c : UInt8) (w : World) : Calls Tryz.prog 121 #[.int .u8 (c.toNat : Int)] w (BQ (dig c) w) := by
  by_cases h1 : 48 ≤ c.toNat
  · have g1 : 48 ≤ (c.toNat : Int) := by omega
    by_cases h2 : c.toNat ≤ 57
    · have HF := Lib.hid (show dig c = true by simp [dig, h1, h2])
      have g2 : (c.toNat : Int) ≤ 57 := by omega
      clear h1 h2
      go_enter Tryz.func121, Tryz.ntmps121
      go_wp2
      go_ret
      exact ⟨ret_bool (by rw [HF.out]), rfl⟩
    · have HF := Lib.hid (show dig c = false by simp [dig, h2])
      have g2 : ¬ (c.toNat : Int) ≤ 57 := by omega
      clear h1 h2
      go_enter Tryz.func121, Tryz.ntmps121
      go_wp2
      go_ret
      exact ⟨ret_bool (by rw [HF.out]), rfl⟩
  · have HF := Lib.hid (show dig c = false by simp [dig, h1])
    have g1 : ¬ 48 ≤ (c.toNat : Int) := by omega
    clear h1
    go_enter Tryz.func121, Tryz.ntmps121
    go_wp2
    go_ret
    exact ⟨ret_bool (by rw [HF.out]), rfl⟩
theorem eq_nat {c : UInt8} {k : Nat} (hk : k < 256) : c = UInt8.ofNat k ↔ c.toNat = k := by
  constructor
  · rintro rfl; simp; omega
  · intro h; apply UInt8.toNat_inj.1; rw [h]; simp; omega
theorem blk_iff (c : UInt8) : blk c = true ↔ (c.toNat = 9 ∨ c.toNat = 10 ∨ c.toNat = 13 ∨ c.toNat = 32) := by
  have e9 := eq_nat (c := c) (k := 9) (by omega)
  have e10 := eq_nat (c := c) (k := 10) (by omega)
  have e13 := eq_nat (c := c) (k := 13) (by omega)
  have e32 := eq_nat (c := c) (k := 32) (by omega)
  simp only [blk, Bool.or_eq_true, decide_eq_true_eq]
  rw [← e9, ← e10, ← e13, ← e32]
  rfl
theorem rblank_any (c : UInt8) (w : World) : Calls Tryz.prog 119 #[.int .u8 (c.toNat : Int)] w (BQ (blk c) w) := by
  by_cases h9 : c.toNat = 9
  · have HF := Lib.hid (show blk c = true by rw [blk_iff]; omega)
    have g9 : ((c.toNat : Int) == 9) = true := by rw [beq_iff_eq]; omega
    clear h9
    go_enter Tryz.func119, Tryz.ntmps119
    go_wp2
    go_ret
    exact ⟨ret_bool (by rw [HF.out]), rfl⟩
  · have g9 : ((c.toNat : Int) == 9) = false := by rw [beq_eq_false_iff_ne]; omega
    by_cases h10 : c.toNat = 10
    · have HF := Lib.hid (show blk c = true by rw [blk_iff]; omega)
      have g10 : ((c.toNat : Int) == 10) = true := by rw [beq_iff_eq]; omega
      clear h9 h10
      go_enter Tryz.func119, Tryz.ntmps119
      go_wp2
      go_ret
      exact ⟨ret_bool (by rw [HF.out]), rfl⟩
    · have g10 : ((c.toNat : Int) == 10) = false := by rw [beq_eq_false_iff_ne]; omega
      by_cases h13 : c.toNat = 13
      · have HF := Lib.hid (show blk c = true by rw [blk_iff]; omega)
        have g13 : ((c.toNat : Int) == 13) = true := by rw [beq_iff_eq]; omega
        clear h9 h10 h13
        go_enter Tryz.func119, Tryz.ntmps119
        go_wp2
        go_ret
        exact ⟨ret_bool (by rw [HF.out]), rfl⟩
      · have g13 : ((c.toNat : Int) == 13) = false := by rw [beq_eq_false_iff_ne]; omega
        by_cases h32 : c.toNat = 32
        · have HF := Lib.hid (show blk c = true by rw [blk_iff]; omega)
          have g32 : ((c.toNat : Int) == 32) = true := by rw [beq_iff_eq]; omega
          clear h9 h10 h13 h32
          go_enter Tryz.func119, Tryz.ntmps119
          go_wp2
          go_ret
          exact ⟨ret_bool (by rw [HF.out]), rfl⟩
        · have g32 : ((c.toNat : Int) == 32) = false := by rw [beq_eq_false_iff_ne]; omega
          have HF := Lib.hid (show blk c = false by rw [Bool.eq_false_iff]; intro h; rw [blk_iff] at h; omega)
          clear h9 h10 h13 h32
          go_enter Tryz.func119, Tryz.ntmps119
          go_wp2
          go_ret
          exact ⟨ret_bool (by rw [HF.out]), rfl⟩
set_option maxHeartbeats 4000000 in
set_option maxRecDepth 100000 in
theorem rleap_any (y : Nat) (w : World) (hy : y ≤ 100000) : Calls Tryz.prog 164 #[.int .i64 y] w (BQ (leap y) w) := by
  go_enter Tryz.func164, Tryz.ntmps164
  go_wp2
  all_goals go_ret
  all_goals refine ⟨ret_bool (leap_of ?_), rfl⟩
  all_goals simp
  all_goals omega
set_option maxHeartbeats 4000000 in
set_option maxRecDepth 100000 in
theorem rlength_any (y m : Nat) (w : World) (hy : y ≤ 100000) (hm1 : 1 ≤ m) (hm : m ≤ 12) : Calls Tryz.prog 142 #[.int .i64 y, .int .i64 m] w (fun e w' => e = .returned (.int .i64 (mlen y m)) ∧ w' = w) := by
  have HL := Lib.hid (fun X => rleap_any y X hy)
  rcases (by omega : m = 1 ∨ m = 3 ∨ m = 4 ∨ m = 5 ∨ m = 6 ∨ m = 7 ∨ m = 8 ∨ m = 9 ∨ m = 10 ∨ m = 11 ∨ m = 12 ∨ m = 2) with rfl | rfl | rfl | rfl | rfl | rfl | rfl | rfl | rfl | rfl | rfl | rfl
  iterate 11
    · go_enter Tryz.func142, Tryz.ntmps142
      go_wp2
      go_ret
      exact ⟨ret_int rfl, rfl⟩
  cases hl : leap y with
  | true =>
    have HE := Lib.hid (show mlen y 2 = 29 by simp [mlen, hl])
    rw [hl] at HL
    clear hl
    go_enter Tryz.func142, Tryz.ntmps142
    go_wp2_with (first | (go_at_call 164; refine (HL.out _).mono ?_; rintro e w1 ⟨rfl, rfl⟩))
    go_ret
    exact ⟨ret_int (by rw [HE.out]; rfl), rfl⟩
  | false =>
    have HE := Lib.hid (show mlen y 2 = 28 by simp [mlen, hl])
    rw [hl] at HL
    clear hl
    go_enter Tryz.func142, Tryz.ntmps142
    go_wp2_with (first | (go_at_call 164; refine (HL.out _).mono ?_; rintro e w1 ⟨rfl, rfl⟩))
    go_ret
    exact ⟨ret_int (by rw [HE.out]; rfl), rfl⟩
set_option maxHeartbeats 4000000 in
set_option maxRecDepth 100000 in
theorem rcheck_any (y m d : Nat) (w : World) (hy : y ≤ 100000) (hm : m ≤ 1000) (hd : d ≤ 1000) : Calls Tryz.prog 179 #[.agg #[.int .i64 y, .int .i64 m, .int .i64 d]] w (IntPost (chkE y m d) w) := by

  by_cases h1 : y < 1
  · have HE := Lib.hid (chk_no (y := y) (m := m) (d := d) (.inl h1))
    have g1 : decide ((y : Int) < 1) = true := decide_eq_true (by omega)
    go_enter Tryz.func179, Tryz.ntmps179
    go_wp2
    go_quiet (fail)
    go_wp2
    go_ret
    exact ⟨ret_int HE.out.symm, ((Ext.refl _).alloc _).drewN _⟩
  · have g1 : decide ((y : Int) < 1) = false := decide_eq_false (by omega)
    by_cases h2 : 9999 < y
    · have HE := Lib.hid (chk_no (y := y) (m := m) (d := d) (.inr (.inl h2)))
      have g2 : decide ((9999 : Int) < (y : Int)) = true := decide_eq_true (by omega)
      go_enter Tryz.func179, Tryz.ntmps179
      go_wp2
      go_quiet (fail)
      go_wp2
      go_ret
      exact ⟨ret_int HE.out.symm, ((Ext.refl _).alloc _).drewN _⟩
    · have g2 : decide ((9999 : Int) < (y : Int)) = false := decide_eq_false (by omega)
      by_cases h3 : m < 1
      · have HE := Lib.hid (chk_no (y := y) (m := m) (d := d) (.inr (.inr (.inl h3))))
        have g3 : decide ((m : Int) < 1) = true := decide_eq_true (by omega)
        go_enter Tryz.func179, Tryz.ntmps179
        go_wp2
        go_quiet (fail)
        go_wp2
        go_ret
        exact ⟨ret_int HE.out.symm, ((Ext.refl _).alloc _).drewN _⟩
      · have g3 : decide ((m : Int) < 1) = false := decide_eq_false (by omega)
        by_cases h4 : 12 < m
        · have HE := Lib.hid (chk_no (y := y) (m := m) (d := d) (.inr (.inr (.inr (.inl h4)))))
          have g4 : decide ((12 : Int) < (m : Int)) = true := decide_eq_true (by omega)
          go_enter Tryz.func179, Tryz.ntmps179
          go_wp2
          go_quiet (fail)
          go_wp2
          go_ret
          exact ⟨ret_int HE.out.symm, ((Ext.refl _).alloc _).drewN _⟩
        · have g4 : decide ((12 : Int) < (m : Int)) = false := decide_eq_false (by omega)
          by_cases h5 : d < 1
          · have HE := Lib.hid (chk_no (y := y) (m := m) (d := d) (.inr (.inr (.inr (.inr (.inl h5))))))
            have g5 : decide ((d : Int) < 1) = true := decide_eq_true (by omega)
            go_enter Tryz.func179, Tryz.ntmps179
            go_wp2
            go_quiet (fail)
            go_wp2
            go_ret
            exact ⟨ret_int HE.out.symm, ((Ext.refl _).alloc _).drewN _⟩
          · have g5 : decide ((d : Int) < 1) = false := decide_eq_false (by omega)
            have HL := Lib.hid (fun X => rlength_any y m X hy (by omega) (by omega))
            by_cases h6 : mlen y m < d
            · have HE := Lib.hid (chk_no (y := y) (m := m) (d := d) (.inr (.inr (.inr (.inr (.inr (h6)))))))
              have g6 : decide (((mlen y m : Nat) : Int) < (d : Int)) = true := decide_eq_true (by omega)
              obtain ⟨L, hLn⟩ : ∃ L, L = mlen y m := ⟨_, rfl⟩
              rw [← hLn] at HL g6 h6
              clear hLn
              go_enter Tryz.func179, Tryz.ntmps179
              go_wp2
              go_quiet (first | (go_at_call 142; refine Calls.quiet_of_same ((HL.out _).mono fun _ _ h => h)))
              go_wp2
              go_ret
              exact ⟨ret_int HE.out.symm, ((Ext.refl _).alloc _).drewN _⟩
            · have HE := Lib.hid (chk_yes (y := y) (m := m) (d := d) (by omega) (by omega) (by omega) (by omega) (by omega) (by omega))
              have g6 : decide (((mlen y m : Nat) : Int) < (d : Int)) = false := decide_eq_false (by omega)
              obtain ⟨L, hLn⟩ : ∃ L, L = mlen y m := ⟨_, rfl⟩
              rw [← hLn] at HL g6 h6
              clear hLn
              go_enter Tryz.func179, Tryz.ntmps179
              go_wp2
              go_quiet (first | (go_at_call 142; refine Calls.quiet_of_same ((HL.out _).mono fun _ _ h => h)))
              go_wp2
              go_ret
              exact ⟨ret_int HE.out.symm, ((Ext.refl _).alloc _).drewN _⟩
theorem rstart_any (y : Nat) (w : World) (hy : 1 ≤ y) (hy2 : y ≤ 10000) : Calls Tryz.prog 141 #[.int .i64 y] w (fun e w' => e = .returned (.int .i64 (365 * (y - 1) + (y - 1) / 4 - (y - 1) / 100 + (y - 1) / 400 : Nat)) ∧ w' = w) := by
  obtain ⟨y, rfl⟩ : ∃ k, y = k + 1 := ⟨y - 1, by omega⟩
  go_enter Tryz.func141, Tryz.ntmps141
  go_wp2
  go_ret
  exact ⟨ret_int (by omega), rfl⟩
end Go.Proofs.YtnpenepdechkjaaGreatDoor

/- Parsed trees are no larger than the source; tokens of the same kinds, texts and numbers are parsed alike. -/
namespace Go.Proofs.YtnpenepdechkjaaGreatDoor
open Go

theorem hd_ne {r : List Tk} (h : hd r ≠ tkE) : ∃ t s, r = t :: s ∧ hd r = t := by
  cases r with
  | nil => exact absurd rfl h
  | cons t s => exact ⟨t, s, rfl, rfl⟩
theorem tail_lt {r : List Tk} (h : hd r ≠ tkE) : r.tail.length + 1 ≤ r.length := by
  obtain ⟨t, s, rfl, _⟩ := hd_ne h
  simp
theorem opens_sz {s : List UInt8} (hs : s ≠ []) {o : Nat} {r r1 : List Tk} {u : Unit} (h : opensP s o r = .ok u r1) : r1.length + 1 ≤ r.length := by
  unfold opensP at h
  split at h
  · rename_i h1
    split at h
    · cases h
    · obtain ⟨_, rfl⟩ := PR.ok_inj h
      exact tail_lt (fun e => hs (by rw [← h1, e]; rfl))
  · cases h
theorem must_sz {s : List UInt8} (hs : s ≠ []) {r r1 : List Tk} {u : Unit} (h : mustP s r = .ok u r1) : r1.length + 1 ≤ r.length := by
  unfold mustP at h
  split at h
  · rename_i h1
    obtain ⟨_, rfl⟩ := PR.ok_inj h
    exact tail_lt (fun e => hs (by rw [← h1, e]; rfl))
  · cases h
theorem tok_sz {k : Int} (hk : k ≠ 0) {r r1 : List Tk} {t : Tk} (h : tokP k r = .ok t r1) : r1.length + 1 ≤ r.length := by
  unfold tokP at h
  split at h
  · rename_i h1
    obtain ⟨_, rfl⟩ := PR.ok_inj h
    exact tail_lt (fun e => hk (by rw [← h1, e]; rfl))
  · cases h
theorem join_sz (lv : Nat) (op : List UInt8) (a b : Tr) (r : List Tk) : tsz (joinP lv op a b r).1 = 1 + (tsz a + tsz b) ∧ (joinP lv op a b r).2.length ≤ r.length := by
  refine ⟨?_, ?_⟩
  · unfold joinP
    split <;> simp [tsz, tszs]
  · unfold joinP
    split
    · simp
    · exact Nat.le_refl _
def SzE (E : Nat → Nat → List Tk → PR Tr) : Prop := ∀ lv o r t r', E lv o r = .ok t r' → tsz t + r'.length ≤ r.length
theorem loop_sz {E : Nat → Nat → List Tk → PR Tr} (hE : SzE E) {lv : Nat} (hlv : 1 ≤ lv) (o : Nat) : ∀ (g : Nat) (n : Tr) (r : List Tk) (t : Tr) (r' : List Tk) (m : Nat), tsz n + r.length ≤ m → loopP E lv o g n r = .ok t r' → tsz t + r'.length ≤ m
  | 0, n, r, t, r', m, hn, h => by
    rw [loopP] at h
    obtain ⟨rfl, rfl⟩ := PR.ok_inj h
    exact hn
  | g + 1, n, r, t, r', m, hn, h => by
    rw [loopP] at h
    split at h
    · rename_i h1
      obtain ⟨b, r2, h2, h3⟩ := PR.bind_inv h
      have h4 := hE _ _ _ _ _ h2
      have h5 := tail_lt (r := r) (fun e => by
        rw [e] at h1
        have : lvOf tkE.tx = 0 := by decide
        omega)
      have h6 := join_sz lv (hd r).tx n b r2
      split at h3
      · obtain ⟨rfl, rfl⟩ := PR.ok_inj h3
        omega
      · exact loop_sz hE hlv o g _ _ _ _ m (by omega) h3
    · obtain ⟨rfl, rfl⟩ := PR.ok_inj h
      exact hn
theorem call_sz {E : Nat → Nat → List Tk → PR Tr} (hE : SzE E) {o : Nat} {r : List Tk} {t : Tr} {r' : List Tk} (h : callP E o r = .ok t r') : tsz t + r'.length ≤ r.length := by
  unfold callP at h
  obtain ⟨x, r1, h1, h⟩ := PR.bind_inv h
  obtain ⟨_, r2, h2, h⟩ := PR.bind_inv h
  obtain ⟨a, r3, h3, h⟩ := PR.bind_inv h
  have g1 := tok_sz (by decide) h1
  have g2 := opens_sz (by decide) h2
  have g3 := hE _ _ _ _ _ h3
  split at h
  · obtain ⟨_, r4, h4, h⟩ := PR.bind_inv h
    have g4 := must_sz (by decide) h4
    obtain ⟨rfl, rfl⟩ := PR.ok_inj h
    simp only [tsz, tszs]; omega
  · obtain ⟨_, r4, h4, h⟩ := PR.bind_inv h
    obtain ⟨_, r5, h5, h⟩ := PR.bind_inv h
    obtain ⟨_, r6, h6, h⟩ := PR.bind_inv h
    have g4 := must_sz (by decide) h4
    have g5 := hE _ _ _ _ _ h5
    have g6 := must_sz (by decide) h6
    obtain ⟨rfl, rfl⟩ := PR.ok_inj h
    simp only [tsz, tszs]; omega
theorem choice_sz {E : Nat → Nat → List Tk → PR Tr} (hE : SzE E) {o : Nat} {r : List Tk} {t : Tr} {r' : List Tk} (h : choiceP E o r = .ok t r') : tsz t + r'.length ≤ r.length := by
  unfold choiceP at h
  obtain ⟨_, r1, h1, h⟩ := PR.bind_inv h
  obtain ⟨_, r2, h2, h⟩ := PR.bind_inv h
  obtain ⟨_, r3, h3, h⟩ := PR.bind_inv h
  obtain ⟨_, r4, h4, h⟩ := PR.bind_inv h
  obtain ⟨_, r5, h5, h⟩ := PR.bind_inv h
  obtain ⟨_, r6, h6, h⟩ := PR.bind_inv h
  obtain ⟨_, r7, h7, h⟩ := PR.bind_inv h
  have g1 := opens_sz (by decide) h1
  have g2 := hE _ _ _ _ _ h2
  have g3 := must_sz (by decide) h3
  have g4 := hE _ _ _ _ _ h4
  have g5 := must_sz (by decide) h5
  have g6 := hE _ _ _ _ _ h6
  have g7 := must_sz (by decide) h7
  obtain ⟨rfl, rfl⟩ := PR.ok_inj h
  simp only [tsz, tszs]; omega
theorem prim_sz {E : Nat → Nat → List Tk → PR Tr} (hE : SzE E) {o : Nat} {r : List Tk} {t : Tr} {r' : List Tk} (h : primP E o r = .ok t r') : tsz t + r'.length ≤ r.length := by
  unfold primP at h
  split at h
  · rename_i h1
    have g := tail_lt (r := r) (fun e => by rw [e] at h1; revert h1; decide)
    obtain ⟨rfl, rfl⟩ := PR.ok_inj h; simp only [tsz, tszs]; omega
  split at h
  · rename_i h1
    have g := tail_lt (r := r) (fun e => by rw [e] at h1; revert h1; decide)
    obtain ⟨rfl, rfl⟩ := PR.ok_inj h; simp only [tsz, tszs]; omega
  split at h
  · rename_i h1
    have g := tail_lt (r := r) (fun e => by rw [e] at h1; revert h1; decide)
    obtain ⟨rfl, rfl⟩ := PR.ok_inj h; simp only [tsz, tszs]; omega
  split at h
  · rename_i h1
    have g := tail_lt (r := r) (fun e => by rw [e] at h1; revert h1; decide)
    obtain ⟨rfl, rfl⟩ := PR.ok_inj h; simp only [tsz, tszs]; omega
  split at h
  · obtain ⟨_, r1, h1, h⟩ := PR.bind_inv h
    obtain ⟨n, r2, h2, h⟩ := PR.bind_inv h
    obtain ⟨_, r3, h3, h⟩ := PR.bind_inv h
    have g1 := opens_sz (by decide) h1
    have g2 := hE _ _ _ _ _ h2
    have g3 := must_sz (by decide) h3
    obtain ⟨rfl, rfl⟩ := PR.ok_inj h
    omega
  split at h
  · exact choice_sz hE h
  split at h
  · exact call_sz hE h
  split at h
  · rename_i h1
    have g := tail_lt (r := r) (fun e => by rw [e] at h1; revert h1; decide)
    obtain ⟨rfl, rfl⟩ := PR.ok_inj h; simp only [tsz, tszs]; omega
  · cases h
theorem expr_sz : ∀ (f : Nat) (lv o : Nat) (r : List Tk) (t : Tr) (r' : List Tk), 1 ≤ lv → exprP f lv o r = .ok t r' → tsz t + r'.length ≤ r.length
  | 0, _, _, _, _, _, _, h => by cases h
  | f + 1, lv, o, r, t, r', hlv, h => by
    have hE : SzE (fun lv => if lv = 0 then fun _ r => .bad r 0 else exprP f lv) := fun lv o r t r' h => by
      by_cases h0 : lv = 0
      · simp only [if_pos h0] at h; cases h
      · simp only [if_neg h0] at h
        exact expr_sz f lv o r t r' (by omega) h
    have key : ∀ lv o, 1 ≤ lv → exprP f lv o = (fun lv => if lv = 0 then fun _ r => .bad r 0 else exprP f lv) lv o := fun lv o h => by
      simp only [if_neg (show ¬ lv = 0 by omega)]
    rw [exprP, stepP] at h
    split at h
    · rename_i hc
      obtain ⟨_, r1, h1, h⟩ := PR.bind_inv h
      obtain ⟨n, r2, h2, h⟩ := PR.bind_inv h
      have g1 := opens_sz (by rcases hc with ⟨_, hc⟩ | ⟨_, hc⟩ <;> rw [hc] <;> decide) h1
      have g2 := expr_sz f _ _ _ _ _ hlv h2
      obtain ⟨rfl, rfl⟩ := PR.ok_inj h
      simp only [tsz, tszs]; omega
    split at h
    · have e9 : primP (exprP f) o r = primP (fun lv => if lv = 0 then fun _ r => .bad r 0 else exprP f lv) o r := by
        unfold primP choiceP callP
        simp only [key 1 (o + 1) (Nat.le_refl _)]
      rw [e9] at h
      exact prim_sz hE h
    · obtain ⟨n, r2, h1, h⟩ := PR.bind_inv h
      have g1 := expr_sz f _ _ _ _ _ (by omega) h1
      have e9 : ∀ (g : Nat) (n : Tr) (r : List Tk), loopP (exprP f) lv o g n r = loopP (fun lv => if lv = 0 then fun _ r => .bad r 0 else exprP f lv) lv o g n r := by
        intro g
        induction g with
        | zero => intro n r; rfl
        | succ g ih =>
          intro n r
          rw [loopP, loopP, key (lv + 1) o (by omega)]
          simp only [ih]
      rw [e9] at h
      exact loop_sz hE hlv o _ _ _ _ _ _ g1 h
/-- Trees of a rule that has been read. -/
theorem rule_sz {E : List Tk → PR Tr} (hE : ∀ r t r', E r = .ok t r' → tsz t + r'.length ≤ r.length) {r : List Tk} {x : Rl} {r' : List Tk} (h : ruleP E r = .ok x r') : tsz x.if_ ≤ r.length + 1 ∧ tsz x.due ≤ r.length ∧ r'.length + 1 ≤ r.length := by
  have hle : ∀ {w : List UInt8} {r r1 : List Tk} {u : Unit}, mustP w r = .ok u r1 → r1.length ≤ r.length := fun {w r r1 u} h => by
    unfold mustP at h
    split at h
    · obtain ⟨_, rfl⟩ := PR.ok_inj h; simp
    · cases h
  have hnm : ∀ {r r1 : List Tk} {u : List UInt8}, nameP r = .ok u r1 → r1.length ≤ r.length := fun {r r1 u} h => by
    unfold nameP at h
    split at h
    · cases h
    · obtain ⟨t, r2, h1, h2⟩ := PR.bind_inv h
      have := tok_sz (by decide) h1
      obtain ⟨_, rfl⟩ := PR.ok_inj h2
      omega
  have hpn : ∀ {w : List UInt8} {r r1 : List Tk} {u : List UInt8}, partP w [] nameP r = .ok u r1 → r1.length ≤ r.length := fun {w r r1 u} h => by
    unfold partP at h
    split at h
    · obtain ⟨a, r2, h1, h2⟩ := PR.bind_inv h
      obtain ⟨_, r3, h3, h4⟩ := PR.bind_inv h2
      have := hnm h1
      have := hle h3
      obtain ⟨_, rfl⟩ := PR.ok_inj h4
      simp only [List.length_tail] at *; omega
    · obtain ⟨_, rfl⟩ := PR.ok_inj h; exact Nat.le_refl _
  have hpe : ∀ {w : List UInt8} {r r1 : List Tk} {u : Tr}, partP w trTrue E r = .ok u r1 → r1.length ≤ r.length ∧ tsz u ≤ r.length + 1 := fun {w r r1 u} h => by
    unfold partP at h
    split at h
    · obtain ⟨a, r2, h1, h2⟩ := PR.bind_inv h
      obtain ⟨_, r3, h3, h4⟩ := PR.bind_inv h2
      have := hE _ _ _ h1
      have := hle h3
      obtain ⟨rfl, rfl⟩ := PR.ok_inj h4
      simp only [List.length_tail] at *; omega
    · obtain ⟨rfl, rfl⟩ := PR.ok_inj h
      refine ⟨Nat.le_refl _, ?_⟩
      simp [trTrue, tsz, tszs]
  unfold ruleP at h
  obtain ⟨_, r1, h1, h⟩ := PR.bind_inv h
  obtain ⟨_, r2, h2, h⟩ := PR.bind_inv h
  obtain ⟨_, r3, h3, h⟩ := PR.bind_inv h
  obtain ⟨_, r4, h4, h⟩ := PR.bind_inv h
  obtain ⟨_, r5, h5, h⟩ := PR.bind_inv h
  obtain ⟨_, r6, h6, h⟩ := PR.bind_inv h
  obtain ⟨_, r7, h7, h⟩ := PR.bind_inv h
  obtain ⟨_, r8, h8, h⟩ := PR.bind_inv h
  obtain ⟨_, r9, h9, h⟩ := PR.bind_inv h
  obtain ⟨_, r10, h10, h⟩ := PR.bind_inv h
  obtain ⟨_, r11, h11, h⟩ := PR.bind_inv h
  obtain ⟨_, r12, h12, h⟩ := PR.bind_inv h
  obtain ⟨_, r13, h13, h⟩ := PR.bind_inv h
  obtain ⟨_, r14, h14, h⟩ := PR.bind_inv h
  obtain ⟨_, r15, h15, h⟩ := PR.bind_inv h
  have g1 := must_sz (by decide) h1
  have g2 := hnm h2
  have g3 := hle h3
  have g4 := tok_sz (by decide) h4
  have g5 := hle h5
  have g6 := hle h6
  have g7 := hnm h7
  have g8 := hle h8
  have g9 := hpe h9
  have g10 := hle h10
  have g11 := hE _ _ _ h11
  have g12 := hle h12
  have g13 := hpn h13
  have g14 := hpn h14
  have g15 := hle h15
  obtain ⟨rfl, rfl⟩ := PR.ok_inj h
  refine ⟨?_, ?_, by omega⟩
  · simp only; omega
  · simp only; omega
theorem rules_sz {E : List Tk → PR Tr} (hE : ∀ r t r', E r = .ok t r' → tsz t + r'.length ≤ r.length) (m : Nat) : ∀ (g : Nat) (l : List Rl) (r : List Tk) (v : List Rl) (r' : List Tk), r.length + l.length ≤ m → (∀ x ∈ l, tsz x.if_ ≤ m + 1 ∧ tsz x.due ≤ m + 1) → rulesP E g l r = .ok v r' → v.length ≤ m ∧ ∀ x ∈ v, tsz x.if_ ≤ m + 1 ∧ tsz x.due ≤ m + 1
  | 0, l, r, v, r', hl, hx, h => by
    rw [rulesP] at h
    obtain ⟨rfl, rfl⟩ := PR.ok_inj h
    exact ⟨by omega, hx⟩
  | g + 1, l, r, v, r', hl, hx, h => by
    rw [rulesP] at h
    split at h
    · obtain ⟨rfl, rfl⟩ := PR.ok_inj h
      exact ⟨by omega, hx⟩
    · obtain ⟨x, r2, h1, h2⟩ := PR.bind_inv h
      obtain ⟨g1, g2, g3⟩ := rule_sz hE h1
      refine rules_sz hE m g (l ++ [x]) r2 v r' (by simp; omega) (fun y hy => ?_) h2
      rcases List.mem_append.1 hy with hy | hy
      · exact hx y hy
      · obtain rfl : y = x := by simpa using hy
        omega
theorem EX_sz (r : List Tk) (t : Tr) (r' : List Tk) (h : EX r = .ok t r') : tsz t + r'.length ≤ r.length := expr_sz 40000 1 0 r t r' (Nat.le_refl _) h
theorem parseR_sz (s : List UInt8) : (parseR s).1.length ≤ 4001 ∧ ∀ x ∈ (parseR s).1, tsz x.if_ ≤ 4002 ∧ tsz x.due ≤ 4002 := by
  have h0 : ([] : List Rl).length ≤ 4001 ∧ ∀ x ∈ ([] : List Rl), tsz x.if_ ≤ 4002 ∧ tsz x.due ≤ 4002 := ⟨by simp, fun x hx => by cases hx⟩
  unfold parseR parseG
  by_cases he : (lexT s).e = 0
  · rw [if_pos he]
    obtain ⟨_, h2, _⟩ := lexT_ok he
    cases h : RP EX [] (lexT s).l with
    | bad r e => exact h0
    | ok v r =>
      simp only
      split
      · exact rules_sz EX_sz 4001 _ _ _ _ _ (by simpa using h2) (fun x hx => by cases hx) h
      · exact h0
  · rw [if_neg he]; exact h0
end Go.Proofs.YtnpenepdechkjaaGreatDoor

/- The parser's errors have codes; the law of two sources. -/
namespace Go.Proofs.YtnpenepdechkjaaGreatDoor
open Go

section
variable {E : Nat → Nat → List Tk → PR Tr} {n : Nat} (hS : ∀ lv o r t r', 1 ≤ lv → E lv o r = .ok t r' → tsz t + r'.length ≤ r.length) (h1 : ∀ o r r' e, r.length + 1 ≤ n → E 1 o r = .bad r' e → e ≠ 0)
include hS h1
end
end Go.Proofs.YtnpenepdechkjaaGreatDoor
