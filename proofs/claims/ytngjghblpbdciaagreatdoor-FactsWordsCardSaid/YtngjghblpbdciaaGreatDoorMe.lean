/- Plain law: the tokens of texts that are put together or cut off. -/
import Derived.Test.YtngjghblpbdciaaGreatDoorMd
import Derived.WalkMore
import Derived.Lib.Hide
import Derived.Lib.ItoaNum
import Derived.Lib.Repeat
import Derived.Deep.RegionHeld3
import Derived.Lib.ItoaLen
import Derived.Lib.AppendIntMem
import Derived.Test.YtngjghblpbdciaaGreatDoorMc
import Derived.Test.YtngjghblpbdciaaGreatDoorMa
namespace Go.Proofs.YtngjghblpbdciaaGreatDoor
open Go

def LexR.putAll (l : List Tk) (r : LexR) : LexR := l.foldr LexR.put r
theorem putAll_nil (r : LexR) : LexR.putAll [] r = r := rfl
theorem putAll_cons (t : Tk) (l : List Tk) (r : LexR) : LexR.putAll (t :: l) r = (LexR.putAll l r).put t := rfl
theorem put_ok {t : Tk} {r : LexR} (h : r.e = 0) : r.put t = ⟨t :: r.l, r.off, 0⟩ := by unfold LexR.put; rw [if_pos h]
theorem put_err {t : Tk} {r : LexR} (h : r.e ≠ 0) : r.put t = r := by unfold LexR.put; rw [if_neg h]
theorem put_e (t : Tk) (r : LexR) : (r.put t).e = r.e := by
  by_cases h : r.e = 0
  · rw [put_ok h, h]
  · rw [put_err h]
theorem putAll_ok {l : List Tk} {r : LexR} (h : r.e = 0) : LexR.putAll l r = ⟨l ++ r.l, r.off, 0⟩ := by
  induction l with
  | nil => rw [putAll_nil]; cases r; simp only at h; subst h; rfl
  | cons t l ih => rw [putAll_cons, ih, put_ok rfl]; rfl
theorem putAll_err {l : List Tk} {r : LexR} (h : r.e ≠ 0) : LexR.putAll l r = r := by
  induction l with
  | nil => rfl
  | cons t l ih => rw [putAll_cons, ih, put_err h]
def endT (k : Nat) : Tk := ⟨0, (k : Nat), [], 0⟩

/-- How the tokens of a text go on. -/
theorem lex_cases (k : Nat) (s : List UInt8) :
    (skipB false s = [] ∧ lexW k s = ⟨[endT (k + s.length)], 0, 0⟩) ∨
    (∃ e, skipB false s ≠ [] ∧ tok1 (skipB false s) = .err e ∧ e ≠ 0 ∧ lexW k s = ⟨[], (k + (s.length - (skipB false s).length) : Nat), e⟩) ∨
    (∃ kd n v, skipB false s ≠ [] ∧ tok1 (skipB false s) = .ok kd n v ∧ 0 < n ∧ n ≤ (skipB false s).length ∧
      lexW k s = (lexW (k + (s.length - (skipB false s).length) + n) ((skipB false s).drop n)).put ⟨kd, (k + (s.length - (skipB false s).length) : Nat), (skipB false s).take n, v⟩) := by
  by_cases h0 : skipB false s = []
  · exact .inl ⟨h0, lex_end h0⟩
  · cases ht : tok1 (skipB false s) with
    | err e => exact .inr (.inl ⟨e, h0, rfl, tok1_err_ne ht, lex_err h0 ht⟩)
    | ok kd n v => exact .inr (.inr ⟨kd, n, v, h0, rfl, (tok1_len ht).1, (tok1_len ht).2, lex_ok h0 ht (tok1_len ht).1⟩)
theorem rest_lt {s : List UInt8} {n : Nat} (h0 : skipB false s ≠ []) (hn : 0 < n) : ((skipB false s).drop n).length < s.length := by
  have h1 := skipB_len false s
  have h2 : 0 < (skipB false s).length := by
    cases hs : skipB false s with
    | nil => exact absurd hs h0
    | cons => simp
  rw [List.length_drop]; omega

/-! ### Two texts with a line feed between them -/
/-! ### Prefixes -/
theorem tw_take {p : UInt8 → Bool} : ∀ (s : List UInt8) (m : Nat), (s.takeWhile p).length ≤ m → (s.take m).takeWhile p = s.takeWhile p
  | [], _, _ => by simp
  | c :: s, 0, h => by
    rw [List.takeWhile_cons] at h ⊢
    split
    · rename_i hc; rw [if_pos hc] at h; simp at h
    · rfl
  | c :: s, m + 1, h => by
    rw [List.take_succ_cons, List.takeWhile_cons, List.takeWhile_cons]
    split
    · rename_i hc
      rw [List.takeWhile_cons, if_pos hc] at h
      rw [tw_take s m (by simpa using h)]
    · rfl
theorem take_drop_take {s : List UInt8} {a n m : Nat} (h : a + n ≤ m) : ((s.take m).drop a).take n = (s.drop a).take n := by
  rw [List.drop_take, List.take_take, Nat.min_eq_left (by omega)]
/-- A token that is read is read out of every prefix that holds it. -/
theorem tok1_take {s : List UInt8} {kd : Int} {n m : Nat} {v : Int} (h : tok1 s = .ok kd n v) (hm : n ≤ m) : tok1 (s.take m) = .ok kd n v := by
  cases s with
  | nil => cases h
  | cons c r =>
    obtain ⟨m, rfl⟩ : ∃ m', m = m' + 1 := ⟨m - 1, by have := (tok1_len h).1; omega⟩
    rw [List.take_succ_cons, tok1_cons]
    rw [tok1_cons] at h
    by_cases hl : low c = true
    · rw [if_pos hl] at h ⊢
      split at h
      · cases h
      · injection h with h1 h2 h3
        rw [← List.take_succ_cons, tw_take _ _ (by omega)]
        rename_i h12
        rw [if_neg h12, h1, h2, h3]
    · rw [if_neg hl] at h ⊢
      by_cases hd : dig c = true
      · rw [if_pos hd] at h ⊢
        split at h
        · cases h
        · split at h
          · cases h
          · rename_i g1 g2
            injection h with h1 h2 h3
            rw [← List.take_succ_cons, tw_take _ _ (by omega), if_neg g1, if_neg g2, h1, h2, h3]
      · rw [if_neg hd] at h ⊢
        by_cases h64 : c = 64
        · rw [if_pos h64] at h ⊢
          split at h
          · rename_i hda
            cases hp : dayP (((c :: r).drop 1).take 10) with
            | none => rw [hp] at h; cases h
            | some d =>
              rw [hp] at h
              injection h with h1 h2 h3
              have hda2 : dated (c :: r.take m) = true := by
                simp only [dated, Bool.and_eq_true, decide_eq_true_eq] at hda ⊢
                obtain ⟨k1, k2, k3, k4, k5, k6⟩ := hda
                rw [← List.take_succ_cons, take_drop_take (by omega), take_drop_take (by omega), take_drop_take (by omega), List.getElem?_take, if_pos (by omega), List.getElem?_take, if_pos (by omega), List.length_take]
                exact ⟨by omega, k2, k3, k4, k5, k6⟩
              rw [if_pos hda2, ← List.take_succ_cons, take_drop_take (by omega), hp]
              simp only [h1, h2, h3]
          · cases h
        · rw [if_neg h64] at h ⊢
          split at h
          · cases h
          · rename_i hs
            injection h with h1 h2 h3
            have e : symN (c :: r.take m) = symN (c :: r) := by
              rw [symN_cons, symN_cons] at *
              cases r with
              | nil => simp
              | cons x r =>
                cases m with
                | zero =>
                  rw [List.take_zero]
                  by_cases hx : (c = 60 ∨ c = 33 ∨ c = 62) ∧ (x :: r).head? = some 61
                  · rw [if_pos hx] at h2; omega
                  · rw [if_neg hx]; simp
                | succ m => simp
            rw [e, if_neg hs, h1, h2, h3]
/-- A token's first byte is neither white space nor opens a comment. -/
theorem tok1_head {c : UInt8} {r : List UInt8} {kd : Int} {n : Nat} {v : Int} (h : tok1 (c :: r) = .ok kd n v) : c ≠ 10 ∧ c ≠ 35 ∧ blk c = false := by
  have key : ∀ x : UInt8, (x = 10 ∨ x = 35 ∨ blk x = true) → low x = false ∧ dig x = false ∧ x ≠ 64 ∧ symN (x :: r) = 0 := by
    intro x hx
    have h5 : x = 10 ∨ x = 35 ∨ x = 9 ∨ x = 13 ∨ x = 32 := by
      rcases hx with hx | hx | hx
      · exact .inl hx
      · exact .inr (.inl hx)
      · simp [blk] at hx
        rcases hx with hx | hx | hx | hx
        · exact .inr (.inr (.inl hx))
        · exact .inl hx
        · exact .inr (.inr (.inr (.inl hx)))
        · exact .inr (.inr (.inr (.inr hx)))
    rcases h5 with rfl | rfl | rfl | rfl | rfl <;> exact ⟨by decide, by decide, by decide, by rw [symN_cons]; simp⟩
  have hn : ¬ (c = 10 ∨ c = 35 ∨ blk c = true) := fun hx => by
    obtain ⟨k1, k2, k3, k4⟩ := key c hx
    rw [tok1_cons, k1, k2, k4] at h
    simp [k3] at h
  refine ⟨fun h => hn (.inl h), fun h => hn (.inr (.inl h)), ?_⟩
  cases hb : blk c with
  | false => rfl
  | true => exact absurd (.inr (.inr hb)) hn
theorem skip_tok {x t : List UInt8} {kd : Int} {n : Nat} {v : Int} (h : tok1 (x ++ t) = .ok kd n v) : skipB false (x ++ t) = x ++ t := by
  cases hx : x ++ t with
  | nil => rw [hx] at h; cases h
  | cons c r =>
    rw [hx] at h
    obtain ⟨h1, h2, h3⟩ := tok1_head h
    rw [skipB, if_neg h1, if_neg h2, h3]
    rfl
end Go.Proofs.YtngjghblpbdciaaGreatDoor

/- Lists of tokens in memory; the step of the loop over a source. -/
namespace Go.Proofs.YtngjghblpbdciaaGreatDoor
open Go Go.RowKit

theorem info36 : (Tryz.prog.info? 35).map (fun i => (i.zero, i.size, i.bytes)) = some (some (.agg #[.int .i64 0, .int .i64 0, .string ⟨#[]⟩, .int .i64 0]), 4, 40) := by kernel_rfl
def tcf (t : Tk) : List Value := [.int .i64 t.kd, .int .i64 t.at_, .string ⟨t.tx.toArray⟩, .int .i64 t.nm]
theorem tcf_len (t : Tk) : (tcf t).length = 4 := rfl
theorem tcf_one (t : Tk) : ∀ u ∈ tcf t, u.oneCell' = true := fun u hu => by
  simp only [tcf, List.mem_cons, List.not_mem_nil, or_false] at hu
  rcases hu with rfl | rfl | rfl | rfl <;> rfl
theorem ap23 {w : World} {base : Nat} {v : Value} {l : List Tk} (h : OL tcf 4 w base 35 v l) {A : Option Addr} {m : Nat} {l' : List Tk} (hs : SL tcf 4 w A m l') (c : Nat) (hm : l.length + m ≤ 100000000) (hbase : base ≤ w.heap.size) :
    ∃ A' c' w', (Builtin.append_ #[31, 31] 31 #[v, .slice A m c]).run Tryz.prog w = .ok (.slice A' (l.length + m) c') w' ∧ OL tcf 4 w' base 35 (.slice A' (l.length + m) c') (l ++ l') ∧ (∀ B, B ≤ base → Below B w w') ∧
      (∀ k, k < w.heap.size → (∀ a, v ≠ .slice (some ⟨k, 0, none⟩) l.length a) → w'.heap[k]? = w.heap[k]?) :=
  OL.append tcf_len tcf_one (by omega) Tryz.underlying31 info36 rfl (by omega) h hs c hm hbase
theorem ap23_one (X : World) {base : Nat} {v : Value} {l : List Tk} (ho : OL tcf 4 X base 35 v l) (k a n : Int) (S : ByteArray) (x : List UInt8) (hS : S.data.toList = x) (b : Nat) (hb : b = X.heap.size) (hm : l.length ≤ 10000000) (hbase : base ≤ X.heap.size) :
    ∃ A' c' w', (Builtin.append_ #[31, 31] 31 #[v, .slice (some ⟨b, 0, none⟩) 1 1]).run Tryz.prog (X.alloc (.cells #[.int .i64 k, .int .i64 a, .string S, .int .i64 n] 35)) = .ok (.slice A' (l.length + 1) c') w' ∧
      OL tcf 4 w' base 35 (.slice A' (l.length + 1) c') (l ++ [⟨k, a, x, n⟩]) ∧ Below base X w' ∧ (∀ k, k < X.heap.size → (∀ a, v ≠ .slice (some ⟨k, 0, none⟩) l.length a) → w'.heap[k]? = X.heap[k]?) := by
  subst hb; subst hS
  obtain ⟨A', c', w', h1, h2, h3, h4⟩ := ap23 (ho.ext ((Ext.refl X).alloc _)) (SL.one (cf := tcf) (sz := 4) X ⟨k, a, S.data.toList, n⟩ #[.int .i64 k, .int .i64 a, .string S, .int .i64 n] rfl 35) 1 (by omega) (by simp; omega)
  refine ⟨A', c', w', h1, h2, Below.trans (Below.mono ((Ext.refl X).alloc _) hbase) (h3 base (Nat.le_refl _)), fun k hk hne => ?_⟩
  rw [h4 k (by simp; omega) hne]
  exact ((Ext.refl X).alloc _).block k hk
/-- What lexer.Tokens computes. -/
def lexT (s : List UInt8) : LexR := if 4000 < s.length then ⟨[], 4000, 2⟩ else lexW 0 s
def TokPost (W : World) (r : LexR) (e : Ending) (W' : World) : Prop := ∃ A c, e = .returned (.tuple #[.slice A r.l.length c, .int .i64 r.off, .int .i64 r.e]) ∧ SL tcf 4 W' A r.l.length r.l ∧ Ext W W' ∧ r.l.length ≤ c
/-! ### Steps -/
theorem skipB_true : ∀ l : List UInt8, skipB true l = skipB false (l.dropWhile nlB)
  | [] => rfl
  | c :: r => by
    by_cases h : c = 10
    · have e : nlB c = false := by simp [nlB, h]
      rw [List.dropWhile_cons_of_neg (by rw [e]; decide), skipB, skipB, if_pos h, if_pos h]
    · have e : nlB c = true := by simp [nlB, h]
      rw [List.dropWhile_cons_of_pos e, ← skipB_true r, skipB, if_neg h]
      by_cases h2 : c = 35
      · rw [if_pos h2]
      · rw [if_neg h2]; simp
theorem drop_twn (p : UInt8 → Bool) (l : List UInt8) : l.drop (twn p l) = l.dropWhile p := by
  induction l with
  | nil => rfl
  | cons c r ih =>
    cases h : p c with
    | true => rw [twn_go h, List.dropWhile_cons_of_pos h, Nat.add_comm, List.drop_succ_cons, ih]
    | false => rw [twn_stop h, List.dropWhile_cons_of_neg (by rw [h]; decide), List.drop_zero]
theorem lex_blank {a : Nat} {c : UInt8} {r : List UInt8} (h : blk c = true) : lexW a (c :: r) = lexW (a + 1) r := by
  apply lex_skip
  · rw [skipB]
    by_cases h1 : c = 10
    · rw [if_pos h1]
    · rw [if_neg h1, if_neg (by rintro rfl; revert h; decide), h]; rfl
  · rw [List.length_cons]; omega
theorem lex_comment {a : Nat} {c : UInt8} {r : List UInt8} (h : c = 35) : lexW a (c :: r) = lexW (a + twn nlB (c :: r)) ((c :: r).drop (twn nlB (c :: r))) := by
  have e : nlB c = true := by rw [h]; decide
  apply lex_skip
  · rw [drop_twn, List.dropWhile_cons_of_pos e, ← skipB_true, skipB, if_neg (by rw [h]; decide), if_pos h]
  · have := (List.takeWhile_sublist nlB (l := c :: r)).length_le
    rw [List.length_drop]
    have h2 : twn nlB (c :: r) ≤ (c :: r).length := this
    omega
theorem skip_none {c : UInt8} {r : List UInt8} (h : blk c = false) (h2 : c ≠ 35) : skipB false (c :: r) = c :: r := by
  have h3 : c ≠ 10 := by rintro rfl; revert h; decide
  rw [skipB, if_neg h3, if_neg h2, h]; rfl
theorem lex_tok_err {a : Nat} {c : UInt8} {r : List UInt8} {e : Int} (h : blk c = false) (h2 : c ≠ 35) (ht : tok1 (c :: r) = .err e) : lexW a (c :: r) = ⟨[], (a : Nat), e⟩ := by
  have hs := skip_none (r := r) h h2
  have := lex_err (k := a) (s := c :: r) (e := e) (by rw [hs]; simp) (by rw [hs]; exact ht)
  rw [this, hs, Nat.sub_self, Nat.add_zero]
theorem lex_tok_ok {a n : Nat} {c : UInt8} {r : List UInt8} {k v : Int} (h : blk c = false) (h2 : c ≠ 35) (ht : tok1 (c :: r) = .ok k n v) : lexW a (c :: r) = (lexW (a + n) ((c :: r).drop n)).put ⟨k, (a : Nat), (c :: r).take n, v⟩ := by
  have hs := skip_none (r := r) h h2
  have := lex_ok (k := a) (s := c :: r) (kd := k) (n := n) (v := v) (by rw [hs]; simp) (by rw [hs]; exact ht) (tok1_len ht).1
  rw [this, hs, Nat.sub_self, Nat.add_zero]
end Go.Proofs.YtngjghblpbdciaaGreatDoor

/- strings.ContainsRune of the white space, at the runes from 128 to 255. -/
namespace Go.Proofs.YtngjghblpbdciaaGreatDoor
open Go Go.RowKit

theorem idx_high (y : UInt8) (hy : 128 ≤ y.toNat) (X : World) : Calls Tryz.prog 35 #[.string ((⟨#[9, 10, 13, 32]⟩ : ByteArray).extract 2 4), .int .u8 (y.toNat : Int)] X fun e X' => e = .returned (.int .i64 (-1)) ∧ X' = X := by
  refine (Tryz.strings_IndexByte _ _ _).mono ?_
  rintro e X' ⟨rfl, rfl⟩
  refine ⟨?_, rfl⟩
  have e : ((⟨#[9, 10, 13, 32]⟩ : ByteArray).extract 2 4).data.toList = [13, 32] := by decide
  have e2 : ((y.toNat : Int)).toNat.toUInt8 = y := by simp
  rw [e, e2]
  have hm : ¬ 0 ≤ Lib.indexByte [13, 32] y := fun h => by
    have := (index_mem _ _).1 h
    simp at this
    rcases this with rfl | rfl <;> revert hy <;> decide
  have hg := Lib.indexByte_ge [13, 32] y
  rw [show Lib.indexByte [13, 32] y = -1 by omega]
set_option maxHeartbeats 4000000 in
set_option maxRecDepth 1000000 in
theorem idxr_high (r : Nat) (w : World) (h1 : 128 ≤ r) (h2 : r ≤ 255) : Calls Tryz.prog 36 #[.string ⟨#[9, 10, 13, 32]⟩, .int .i32 r] w (fun e w' => e = .returned (.int .i64 (-1)) ∧ Ext w w') := by
  have g1 : ¬ (r : Int) < 128 := by omega
  have g2 : ((r : Int) == 65533) = false := by rw [beq_eq_false_iff_ne]; omega
  have hvr : Lib.validRune (r : Int) = true := by unfold Lib.validRune; simp; omega
  have HV := Lib.hid (fun X => Tryz.utf8_ValidRune (r : Int) X)
  rw [hvr] at HV
  clear hvr
  have hcv : ∀ W : World, (convert 21 9 (.int .i32 (r : Int))).run Tryz.prog W = .ok (.string (Utf8.encode (r : Int))) W := fun W => by
    simp [convert, run_underlying Tryz.underlying21, run_underlying Tryz.underlying9, Conv.intToString]
  obtain ⟨x, y, hxy, hy1, hy2⟩ : ∃ x y : UInt8, Utf8.encode (r : Int) = ⟨#[x, y]⟩ ∧ 128 ≤ y.toNat ∧ y.toNat ≤ 255 := by
    have hv : Utf8.valid (r : Int) = true := by simp [Utf8.valid]; omega
    refine ⟨_, _, by unfold Utf8.encode; rw [if_pos hv, Int.toNat_natCast]; simp only; rw [if_neg (by omega), if_pos (by omega)], ?_, ?_⟩
    · rw [UInt8.toNat_ofNat']; omega
    · rw [UInt8.toNat_ofNat']; omega
  rw [hxy] at hcv
  clear hxy
  have hne : ∀ (p : 1 < (⟨#[9, 10, 13, 32]⟩ : ByteArray).size) (q : 1 < (⟨#[x, y]⟩ : ByteArray).size), ((((⟨#[9, 10, 13, 32]⟩ : ByteArray)[1]'p).toNat : Int) != (((⟨#[x, y]⟩ : ByteArray)[1]'q).toNat : Int)) = true := fun p q => by
    have e : ((10 : Int) != (y.toNat : Int)) = true := by rw [bne_iff_ne]; omega
    exact e
  have HI := Lib.hid (fun (z : UInt8) (hz : z = y) X => (idx_high z (by rw [hz]; exact hy1) X : Calls Tryz.prog 35 #[.string ((⟨#[9, 10, 13, 32]⟩ : ByteArray).extract 2 4), .int .u8 (z.toNat : Int)] X fun e X' => e = .returned (.int .i64 (-1)) ∧ X' = X))
  go_enter Tryz.func36, Tryz.ntmps36
  go_wp2_with (first | (go_at_call 56; refine (HV.out _).mono ?_; rintro e w1 ⟨rfl, rfl⟩))
  go_step3
  go_wp2
  refine wp_loop_rounds 1 ?_
  rw [rounds_succ]
  go_wp2
  go_step3
  go_wp2
  go_quiet (fail)
  go_wp2
  go_quiet (first | (go_at_call 35; refine (HI.out ((⟨#[x, y]⟩ : ByteArray)[1]'(show 1 < 2 by decide)) rfl _).mono ?_; rintro e w'' ⟨rfl, rfl⟩; exact ⟨rfl, _, rfl⟩))
  go_wp2
  rw [Exit.noGoto_ret]
  go_wp2
  rw [Exit.noGoto_ret]
  go_ret
  exact ⟨rfl, (Ext.refl _).drewN _⟩
theorem blk_mem (c : UInt8) : blk c = decide (0 ≤ Lib.indexByte [9, 10, 13, 32] c) := by
  rw [Bool.eq_iff_iff, decide_eq_true_eq, index_mem]
  simp [blk]
set_option maxRecDepth 100000 in
theorem crune_any (c : UInt8) (w : World) : Calls Tryz.prog 14 #[.string ⟨#[9, 10, 13, 32]⟩, .int .i32 (c.toNat : Int)] w (BoolPost (blk c) w) := by
  by_cases h : c.toNat < 128
  · refine (Tryz.strings_ContainsRune_ascii _ _ w (by omega) (by omega)).mono ?_
    rintro e w' ⟨rfl, rfl⟩
    refine ⟨?_, Ext.refl _⟩
    rw [blk_mem]
    simp
  · have hb : blk c = false := by
      rw [Bool.eq_false_iff]; intro hb
      simp [blk] at hb
      rcases hb with rfl | rfl | rfl | rfl <;> exact h (by decide)
    rw [hb]
    have HI := Lib.hid (fun X => idxr_high c.toNat X (by omega) (by have := c.toNat_lt; omega))
    clear hb h
    go_enter Tryz.func14, Tryz.ntmps14
    go_wp2_with (first | (go_at_call 36; refine (HI.out _).mono ?_; rintro e w1 ⟨rfl, hx⟩))
    go_ret
    exact ⟨rfl, hx⟩
end Go.Proofs.YtngjghblpbdciaaGreatDoor

/- The contract of lexer.Tokens. -/
namespace Go.Proofs.YtngjghblpbdciaaGreatDoor
open Go Go.RowKit

def TRel (W : World) (l : List UInt8) (s5 s6 : Value) (w' : World) : Prop :=
  ∃ (a : Nat) (A : Option Addr) (c : Nat) (pre : List Tk), a ≤ l.length ∧ s6 = .int .i64 a ∧ s5 = .slice A pre.length c ∧ OL tcf 4 w' W.heap.size 35 s5 pre ∧ Ext W w' ∧ pre.length ≤ a ∧ lexW 0 l = LexR.putAll pre (lexW a (l.drop a))
theorem lowI_low (c : UInt8) : lowI (c.toNat : Int) = low c := by
  unfold lowI low
  congr 1 <;> (rw [decide_eq_decide]; omega)
theorem tpost_okk {R : ByteArray} {W W' : World} {e : Ending} {k v : Int} {n : Nat} {l : List UInt8} (ht : tok1 l = .ok k n v) (hl : R.data.toList = l) (h : TPost (tok1 l) R W e W') :
    ∃ S : ByteArray, S.size = n ∧ Hid (S.data.toList = l.take n) ∧ e = .returned (.tuple #[.agg #[.int .i64 k, .int .i64 0, .string S, .int .i64 v], .int .i64 0]) ∧ Ext W W' := by
  have hn := (tok1_len ht).2
  rw [ht] at h
  obtain ⟨⟨S, hS, rfl⟩, hx⟩ := h
  rw [hl] at hS
  refine ⟨S, ?_, Lib.hid hS, rfl, hx⟩
  rw [← list_size, hS, List.length_take]; omega
theorem own_new {W : World} {base : Nat} {e : TypeId} {A : Option Addr} {n c b : Nat} {l : List Tk} (h : OL tcf 4 W base e (.slice A n c) l) (hb : W.heap.size ≤ b) : ∀ a, Value.slice A n c ≠ .slice (some ⟨b, 0, none⟩) l.length a := by
  intro a he
  injection he with e1 _ _
  subst e1
  obtain ⟨A', c', e', _, h2⟩ := own_form h
  injection e' with e1 _ _
  subst e1
  rcases h2 with ⟨h2, _⟩ | ⟨g, h2, _, h3, _⟩
  · cases h2
  · injection h2 with h2; injection h2 with h2; omega
theorem tok_post_err {W W' : World} {l : List UInt8} {a : Nat} {e : Int} (h : lexT l = lexW 0 l) (h2 : lexW 0 l = ⟨[], (a : Nat), e⟩) (hx : Ext W W') :
    TokPost W (lexT l) (.returned (.tuple #[.slice none 0 0, .int .i64 a, .int .i64 e])) W' := by
  rw [h, h2]; exact ⟨none, 0, rfl, SL.nil _, hx, Nat.zero_le _⟩
theorem tokens_err {l : List UInt8} {a : Nat} {pre : List Tk} {b : UInt8} {r : List UInt8} {e : Int} (h : lexW 0 l = LexR.putAll pre (lexW a (l.drop a))) (hl : l.drop a = b :: r) (hb : blk b = false) (h35 : b ≠ 35) (ht : tok1 (b :: r) = .err e) :
    lexW 0 l = ⟨[], (a : Nat), e⟩ := by
  rw [h, hl, lex_tok_err hb h35 ht, putAll_err (tok1_err_ne ht)]
theorem tokens_ok {l : List UInt8} {a n : Nat} {pre : List Tk} {b : UInt8} {r : List UInt8} {k v : Int} (h : lexW 0 l = LexR.putAll pre (lexW a (l.drop a))) (hl : l.drop a = b :: r) (hb : blk b = false) (h35 : b ≠ 35) (ht : tok1 (b :: r) = .ok k n v) :
    lexW 0 l = LexR.putAll (pre ++ [⟨k, (a : Nat), (b :: r).take n, v⟩]) (lexW (a + n) (l.drop (a + n))) := by
  rw [h, hl, lex_tok_ok hb h35 ht, LexR.putAll, LexR.putAll, List.foldr_append, List.foldr_cons, List.foldr_nil, ← hl, List.drop_drop]
def tokM (n : Nat) (v : Value) : Nat := match v with | .int _ z => n - z.toNat | _ => 0
set_option maxHeartbeats 4000000 in
set_option maxRecDepth 100000 in
theorem tokens_any (s : ByteArray) (w : World) (hs : s.size ≤ 281474976710656) (hR : EnvR w) (hL : EnvL w) : Calls Tryz.prog 6 #[.string s] w (TokPost w (lexT s.data.toList)) := by
  by_cases hbig : 4000 < s.size
  · have hT : lexT s.data.toList = ⟨[], 4000, 2⟩ := by rw [lexT, if_pos (by rw [list_size]; exact hbig)]
    have HT := Lib.hid hT
    have hb' : (4000 : Int) < (s.size : Int) := by omega
    clear hT
    go_enter Tryz.func6, Tryz.ntmps6
    go_wp2
    go_step3
    go_wp2
    rw [Exit.noGoto_ret]
    refine bodyPost_ret (v := .tuple #[.slice none 0 0, .int .i64 4000, .int .i64 2]) (by simp [results, Tryz.results6, go_sem, *]) rfl ?_
    rw [HT.out]
    exact ⟨none, 0, rfl, SL.nil _, Ext.refl _, Nat.zero_le _⟩
  · have hT : lexT s.data.toList = lexW 0 s.data.toList := by rw [lexT, if_neg (by rw [list_size]; exact hbig)]
    have HT := Lib.hid hT
    have hb' : ¬ (4000 : Int) < (s.size : Int) := by omega
    have HR := Lib.hid hR
    have HL := Lib.hid hL
    clear hT hR hL
    go_enter Tryz.func6, Tryz.ntmps6
    go_wp2
    go_step3
    go_wp2
    go_step3
    go_wp2
    go_loopw [5, 6] (fun s5 s6 w' => TRel w s.data.toList s5 s6 w') (fun _ s6 _ => tokM s.size s6)
    case atStart => exact ⟨0, none, 0, [], by omega, rfl, rfl, OL.nil _ _ _, Ext.refl _, by simp, by rw [putAll_nil, List.drop_zero]⟩
    case round =>
      obtain ⟨a, A, c, pre, ha, rfl, rfl, ho, hx, hpl, hlx⟩ := hrel
      have HO := Lib.hid ho
      have HX := Lib.hid hx
      have HLX := Lib.hid hlx
      rw [list_size] at ha
      clear ho hx hlx
      by_cases hal : a < s.size
      · have hsz0 : 0 < (s.extract a s.size).size := by rw [ByteArray.size_extract]; omega
        have hl := get_list s a hal
        obtain ⟨b, hb⟩ : ∃ b : UInt8, b = s[a]'hal := ⟨_, rfl⟩
        rw [← hb] at hl
        have hgt : ∀ h : 0 < (s.extract a s.size).size, (s.extract a s.size)[0]'h = b := fun h => by rw [hb]; simp [ByteArray.getElem_extract]
        have hwr : RowKit.wrap32 (b.toNat : Int) = (b.toNat : Int) := by unfold RowKit.wrap32; (have := b.toNat_lt; omega)
        have HC := Lib.hid (fun X => crune_any b X)
        have HLL := Lib.hid hl
        clear hl hb
        cases hbk : blk b with
        | true =>
          rw [hbk] at HC
          have FIN := Lib.hid (show lexW 0 s.data.toList = LexR.putAll pre (lexW (a + 1) (s.data.toList.drop (a + 1))) by rw [HLX.out, HLL.out, lex_blank hbk])
          clear hbk HLX HLL
          have hin : s.data.toList.length = s.size := list_size s
          clear hin
          go_wp2_with (first | (go_at_call 14; refine (HC.out _).mono ?_; rintro e w1 ⟨rfl, hx1⟩))
          refine ⟨⟨a + 1, A, c, pre, by rw [list_size]; omega, by simp, rfl, HO.out.ext hx1, HX.out.trans hx1, by omega, FIN.out⟩, by simp [tokM]; omega⟩
        | false =>
          rw [hbk] at HC
          by_cases h35 : b = 35
          · have HF := Lib.hid (fun X => first29_any (s.extract a s.size) X (by rw [ByteArray.size_extract]; omega))
            have el : (s.extract a s.size).data.toList = s.data.toList.drop a := by rw [extract_list]; apply List.take_of_length_le; rw [List.length_drop, list_size]; omega
            have hle := twn_size nlB (s.extract a s.size)
            rw [el] at HF hle
            rw [ByteArray.size_extract] at hle
            have hge : 1 ≤ twn nlB (s.data.toList.drop a) := by rw [HLL.out, twn_go (by rw [h35]; decide)]; omega
            obtain ⟨n, hn⟩ : ∃ n, n = twn nlB (s.data.toList.drop a) := ⟨_, rfl⟩
            have FIN := Lib.hid (show lexW 0 s.data.toList = LexR.putAll pre (lexW (a + n) (s.data.toList.drop (a + n))) by
              rw [HLX.out, hn, ← List.drop_drop, HLL.out, lex_comment h35])
            rw [← hn] at HF hle hge
            have h35' : ((b.toNat : Int) == 35) = true := by rw [h35]; rfl
            clear hbk HLX HLL hn el h35
            go_wp2_with (first | (go_at_call 14; refine (HC.out _).mono ?_; rintro e w1 ⟨rfl, hx1⟩) | (go_at_call 15; refine (HF.out _).mono ?_; rintro e w2 ⟨rfl, hx2⟩))
            refine ⟨⟨a + n, A, c, pre, by rw [list_size]; omega, by simp, rfl, (HO.out.ext hx1).ext hx2, (HX.out.trans hx1).trans hx2, by omega, FIN.out⟩, by simp [tokM]; omega⟩
          · have h35' : ((b.toNat : Int) == 35) = false := by
              rw [beq_eq_false_iff_ne]; intro e; exact h35 (UInt8.toNat_inj.1 (by have : (35 : UInt8).toNat = 35 := rfl; omega))
            have el : (s.extract a s.size).data.toList = s.data.toList.drop a := by rw [extract_list]; apply List.take_of_length_le; rw [List.length_drop, list_size]; omega
            have HER := Lib.hid (fun e (h : tok1 (b :: s.data.toList.drop (a + 1)) = .err e) => tokens_err HLX.out HLL.out hbk h35 h)
            have HOK := Lib.hid (fun k n v (h : tok1 (b :: s.data.toList.drop (a + 1)) = .ok k n v) => tokens_ok HLX.out HLL.out hbk h35 h)
            have HLE := Lib.hid (fun X => letter_any (b.toNat : Int) X)
            rw [show lowI (b.toNat : Int) = low b from lowI_low b] at HLE
            cases hlo : low b with
            | true =>
              rw [hlo] at HLE
              have HRD := Lib.hid (fun X => word_any (s.extract a s.size) X (by rw [ByteArray.size_extract]; omega))
              rw [show wordT (s.extract a s.size).data.toList = tok1 (b :: s.data.toList.drop (a + 1)) by rw [el, HLL.out, tok1_word hlo]] at HRD
              cases ht : tok1 (b :: s.data.toList.drop (a + 1)) with
              | err e =>
                rw [ht] at HRD
                have HFIN := Lib.hid (HER.out e ht)
                have hne : (e == 0) = false := by simpa using tok1_err_ne ht
                clear hbk HLX HLL h35 hlo el HER HOK ht
                go_wp2_with (first | (go_at_call 14; refine (HC.out _).mono ?_; rintro e w1 ⟨rfl, hx1⟩) | (go_at_call 17; refine (HLE.out _).mono ?_; rintro e w2 ⟨rfl, rfl⟩) | (go_at_call 18; refine (HRD.out _).mono ?_; rintro e' w2 ⟨rfl, hx2⟩))
                rw [Exit.noGoto_ret]
                refine bodyPost_ret (v := .tuple #[.slice none 0 0, .int .i64 a, .int .i64 e]) (by simp [results, Tryz.results6, go_sem]) rfl ?_
                exact tok_post_err HT.out HFIN.out (((HX.out.trans hx1).trans hx2).alloc _)
              | ok k n v =>
                have hnr := (tok1_len ht)
                rw [List.length_cons, List.length_drop, list_size] at hnr
                have hn0 : 0 < n := hnr.1
                have hnz : a + n ≤ s.size := by omega
                have HRO := Lib.hid (fun X e W' (hp : TPost (tok1 (b :: s.data.toList.drop (a + 1))) (s.extract a s.size) X e W') => tpost_okk ht (el.trans HLL.out) hp)
                have HFIN := Lib.hid (HOK.out k n v ht)
                clear hbk HLX HLL h35 hlo el HER HOK ht hnr
                go_upto_region 23 with (first | (go_at_call 14; refine (HC.out _).mono ?_; rintro e w1 ⟨rfl, hx1⟩) | (go_at_call 17; refine (HLE.out _).mono ?_; rintro e w2 ⟨rfl, rfl⟩) | (go_at_call 18; refine (HRD.out _).mono ?_; intro e' w2 hp; obtain ⟨S, hSn, HS, rfl, hx2⟩ := HRO.out _ _ _ hp; clear hp))
                have hxx := hx1.trans hx2
                have hown := own_new (HO.out.ext hxx) (Nat.le_refl _)
                obtain ⟨A5, c5, w5, hrun, ho5, hb5, hk5⟩ := ap23_one (w2.alloc (.cells #[.int .i64 k, .int .i64 a, .string S, .int .i64 v] 35)) ((HO.out.ext hxx).ext ((Ext.refl _).alloc _)) k a v S (S.data.toList) rfl (w2.heap.size + 1) (by simp) (by omega) (by simp; exact Nat.le_trans HX.out.lt (Nat.le_trans hxx.lt (Nat.le_succ _)))
                have hk6 := hk5 w2.heap.size (by simp) hown
                have hc2 : w5.cell? ⟨w2.heap.size, 2, none⟩ = some (.string S) := by
                  rw [cell_of_row w5 w2.heap.size _ _ 35 (0, 0) (hk6.trans (heap_alloc_new w2 _))]; rfl
                have HO5 := Lib.hid ho5
                have HB5 := Lib.hid hb5
                have HXX := Lib.hid hxx
                clear ho5 hb5 hk5 hk6 hown hx1 hx2 hxx
                have han : (a : Int) + (n : Int) ≤ 4000 := by omega
                go_wp2_with (first | (at_builtin; refine wpList_append_run (s := .tmp 58) (x := .tmp 60) hrun rfl rfl rfl rfl rfl ?_))
                refine ⟨⟨a + n, A5, c5, pre ++ [⟨k, a, S.data.toList, v⟩], by rw [list_size]; omega, by simp, by rw [List.length_append]; rfl, HO5.out, ?_, by rw [List.length_append, List.length_singleton]; omega, ?_⟩, by simp [tokM]; omega⟩
                · exact Below.trans ((HX.out.trans HXX.out).alloc _) HB5.out
                · rw [HS.out]; exact HFIN.out
            | false =>
              rw [hlo] at HLE
              have HDI := Lib.hid (fun X => digit_any (b.toNat : Int) X)
              rw [show digI (b.toNat : Int) = dig b from digI_dig b] at HDI
              cases hdi : dig b with
              | true =>
                rw [hdi] at HDI
                have HRD := Lib.hid (fun X (hX : Ext w X) => num_any (s.extract a s.size) X (by rw [ByteArray.size_extract]; omega) hsz0 (by rw [hgt hsz0]; exact hdi) (HR.out.ext hX))
                rw [show numT (s.extract a s.size).data.toList = tok1 (b :: s.data.toList.drop (a + 1)) by rw [el, HLL.out, tok1_num hlo hdi]] at HRD
                cases ht : tok1 (b :: s.data.toList.drop (a + 1)) with
                | err e =>
                  rw [ht] at HRD
                  have HFIN := Lib.hid (HER.out e ht)
                  have hne : (e == 0) = false := by simpa using tok1_err_ne ht
                  clear hbk HLX HLL h35 hlo el HER HOK ht hdi
                  go_wp2_with (first | (go_at_call 14; refine (HC.out _).mono ?_; rintro e w1 ⟨rfl, hx1⟩) | (go_at_call 17; refine (HLE.out _).mono ?_; rintro e w2 ⟨rfl, rfl⟩) | (go_at_call 19; refine (HDI.out _).mono ?_; rintro e w2 ⟨rfl, rfl⟩) | (go_at_call 20; refine (HRD.out _ ?_).mono ?_; exact HX.out.trans hx1; rintro e' w2 ⟨rfl, hx2⟩))
                  rw [Exit.noGoto_ret]
                  refine bodyPost_ret (v := .tuple #[.slice none 0 0, .int .i64 a, .int .i64 e]) (by simp [results, Tryz.results6, go_sem]) rfl ?_
                  exact tok_post_err HT.out HFIN.out (((HX.out.trans hx1).trans hx2).alloc _)
                | ok k n v =>
                  have hnr := (tok1_len ht)
                  rw [List.length_cons, List.length_drop, list_size] at hnr
                  have hn0 : 0 < n := hnr.1
                  have hnz : a + n ≤ s.size := by omega
                  have HRO := Lib.hid (fun X e W' (hp : TPost (tok1 (b :: s.data.toList.drop (a + 1))) (s.extract a s.size) X e W') => tpost_okk ht (el.trans HLL.out) hp)
                  have HFIN := Lib.hid (HOK.out k n v ht)
                  clear hbk HLX HLL h35 hlo el HER HOK ht hnr hdi
                  go_upto_region 23 with (first | (go_at_call 14; refine (HC.out _).mono ?_; rintro e w1 ⟨rfl, hx1⟩) | (go_at_call 17; refine (HLE.out _).mono ?_; rintro e w2 ⟨rfl, rfl⟩) | (go_at_call 19; refine (HDI.out _).mono ?_; rintro e w2 ⟨rfl, rfl⟩) | (go_at_call 20; refine (HRD.out _ ?_).mono ?_; exact HX.out.trans hx1; intro e' w2 hp; obtain ⟨S, hSn, HS, rfl, hx2⟩ := HRO.out _ _ _ hp; clear hp))
                  have hxx := hx1.trans hx2
                  have hown := own_new (HO.out.ext hxx) (Nat.le_refl _)
                  obtain ⟨A5, c5, w5, hrun, ho5, hb5, hk5⟩ := ap23_one (w2.alloc (.cells #[.int .i64 k, .int .i64 a, .string S, .int .i64 v] 35)) ((HO.out.ext hxx).ext ((Ext.refl _).alloc _)) k a v S (S.data.toList) rfl (w2.heap.size + 1) (by simp) (by omega) (by simp; exact Nat.le_trans HX.out.lt (Nat.le_trans hxx.lt (Nat.le_succ _)))
                  have hk6 := hk5 w2.heap.size (by simp) hown
                  have hc2 : w5.cell? ⟨w2.heap.size, 2, none⟩ = some (.string S) := by
                    rw [cell_of_row w5 w2.heap.size _ _ 35 (0, 0) (hk6.trans (heap_alloc_new w2 _))]; rfl
                  have HO5 := Lib.hid ho5
                  have HB5 := Lib.hid hb5
                  have HXX := Lib.hid hxx
                  clear ho5 hb5 hk5 hk6 hown hx1 hx2 hxx
                  have han : (a : Int) + (n : Int) ≤ 4000 := by omega
                  go_wp2_with (first | (at_builtin; refine wpList_append_run (s := .tmp 58) (x := .tmp 60) hrun rfl rfl rfl rfl rfl ?_))
                  refine ⟨⟨a + n, A5, c5, pre ++ [⟨k, a, S.data.toList, v⟩], by rw [list_size]; omega, by simp, by rw [List.length_append]; rfl, HO5.out, ?_, by rw [List.length_append, List.length_singleton]; omega, ?_⟩, by simp [tokM]; omega⟩
                  · exact Below.trans ((HX.out.trans HXX.out).alloc _) HB5.out
                  · rw [HS.out]; exact HFIN.out
              | false =>
                rw [hdi] at HDI
                by_cases h64 : b = 64
                · have h64' : ((b.toNat : Int) == 64) = true := by rw [h64]; rfl
                  have HRD := Lib.hid (fun X (hX : Ext w X) => lday_any (s.extract a s.size) X (by rw [el, HLL.out, h64]; rfl) (by rw [ByteArray.size_extract]; omega) (HL.out.ext hX))
                  rw [show dayT (s.extract a s.size).data.toList = tok1 (b :: s.data.toList.drop (a + 1)) by rw [el, HLL.out, tok1_day hlo hdi h64]] at HRD
                  cases ht : tok1 (b :: s.data.toList.drop (a + 1)) with
                  | err e =>
                    rw [ht] at HRD
                    have HFIN := Lib.hid (HER.out e ht)
                    have hne : (e == 0) = false := by simpa using tok1_err_ne ht
                    clear hbk HLX HLL h35 hlo el HER HOK ht hdi h64
                    go_wp2_with (first | (go_at_call 14; refine (HC.out _).mono ?_; rintro e w1 ⟨rfl, hx1⟩) | (go_at_call 17; refine (HLE.out _).mono ?_; rintro e w2 ⟨rfl, rfl⟩) | (go_at_call 19; refine (HDI.out _).mono ?_; rintro e w2 ⟨rfl, rfl⟩) | (go_at_call 21; refine (HRD.out _ ?_).mono ?_; exact HX.out.trans hx1; rintro e' w2 ⟨rfl, hx2⟩))
                    rw [Exit.noGoto_ret]
                    refine bodyPost_ret (v := .tuple #[.slice none 0 0, .int .i64 a, .int .i64 e]) (by simp [results, Tryz.results6, go_sem]) rfl ?_
                    exact tok_post_err HT.out HFIN.out (((HX.out.trans hx1).trans hx2).alloc _)
                  | ok k n v =>
                    have hnr := (tok1_len ht)
                    rw [List.length_cons, List.length_drop, list_size] at hnr
                    have hn0 : 0 < n := hnr.1
                    have hnz : a + n ≤ s.size := by omega
                    have HRO := Lib.hid (fun X e W' (hp : TPost (tok1 (b :: s.data.toList.drop (a + 1))) (s.extract a s.size) X e W') => tpost_okk ht (el.trans HLL.out) hp)
                    have HFIN := Lib.hid (HOK.out k n v ht)
                    clear hbk HLX HLL h35 hlo el HER HOK ht hnr hdi h64
                    go_upto_region 23 with (first | (go_at_call 14; refine (HC.out _).mono ?_; rintro e w1 ⟨rfl, hx1⟩) | (go_at_call 17; refine (HLE.out _).mono ?_; rintro e w2 ⟨rfl, rfl⟩) | (go_at_call 19; refine (HDI.out _).mono ?_; rintro e w2 ⟨rfl, rfl⟩) | (go_at_call 21; refine (HRD.out _ ?_).mono ?_; exact HX.out.trans hx1; intro e' w2 hp; obtain ⟨S, hSn, HS, rfl, hx2⟩ := HRO.out _ _ _ hp; clear hp))
                    have hxx := hx1.trans hx2
                    have hown := own_new (HO.out.ext hxx) (Nat.le_refl _)
                    obtain ⟨A5, c5, w5, hrun, ho5, hb5, hk5⟩ := ap23_one (w2.alloc (.cells #[.int .i64 k, .int .i64 a, .string S, .int .i64 v] 35)) ((HO.out.ext hxx).ext ((Ext.refl _).alloc _)) k a v S (S.data.toList) rfl (w2.heap.size + 1) (by simp) (by omega) (by simp; exact Nat.le_trans HX.out.lt (Nat.le_trans hxx.lt (Nat.le_succ _)))
                    have hk6 := hk5 w2.heap.size (by simp) hown
                    have hc2 : w5.cell? ⟨w2.heap.size, 2, none⟩ = some (.string S) := by
                      rw [cell_of_row w5 w2.heap.size _ _ 35 (0, 0) (hk6.trans (heap_alloc_new w2 _))]; rfl
                    have HO5 := Lib.hid ho5
                    have HB5 := Lib.hid hb5
                    have HXX := Lib.hid hxx
                    clear ho5 hb5 hk5 hk6 hown hx1 hx2 hxx
                    have han : (a : Int) + (n : Int) ≤ 4000 := by omega
                    go_wp2_with (first | (at_builtin; refine wpList_append_run (s := .tmp 58) (x := .tmp 60) hrun rfl rfl rfl rfl rfl ?_))
                    refine ⟨⟨a + n, A5, c5, pre ++ [⟨k, a, S.data.toList, v⟩], by rw [list_size]; omega, by simp, by rw [List.length_append]; rfl, HO5.out, ?_, by rw [List.length_append, List.length_singleton]; omega, ?_⟩, by simp [tokM]; omega⟩
                    · exact Below.trans ((HX.out.trans HXX.out).alloc _) HB5.out
                    · rw [HS.out]; exact HFIN.out
                · have h64' : ((b.toNat : Int) == 64) = false := by
                    rw [beq_eq_false_iff_ne]; intro e; exact h64 (UInt8.toNat_inj.1 (by have : (64 : UInt8).toNat = 64 := rfl; omega))
                  have HRD := Lib.hid (fun X => sym_any (s.extract a s.size) X (by rw [ByteArray.size_extract]; omega) hsz0)
                  rw [show symT (s.extract a s.size).data.toList = tok1 (b :: s.data.toList.drop (a + 1)) by rw [el, HLL.out, tok1_sym hlo hdi h64]] at HRD
                  cases ht : tok1 (b :: s.data.toList.drop (a + 1)) with
                  | err e =>
                    rw [ht] at HRD
                    have HFIN := Lib.hid (HER.out e ht)
                    have hne : (e == 0) = false := by simpa using tok1_err_ne ht
                    clear hbk HLX HLL h35 hlo el HER HOK ht hdi h64
                    go_wp2_with (first | (go_at_call 14; refine (HC.out _).mono ?_; rintro e w1 ⟨rfl, hx1⟩) | (go_at_call 17; refine (HLE.out _).mono ?_; rintro e w2 ⟨rfl, rfl⟩) | (go_at_call 19; refine (HDI.out _).mono ?_; rintro e w2 ⟨rfl, rfl⟩) | (go_at_call 13; refine (HRD.out _).mono ?_; rintro e' w2 ⟨rfl, hx2⟩))
                    rw [Exit.noGoto_ret]
                    refine bodyPost_ret (v := .tuple #[.slice none 0 0, .int .i64 a, .int .i64 e]) (by simp [results, Tryz.results6, go_sem]) rfl ?_
                    exact tok_post_err HT.out HFIN.out (((HX.out.trans hx1).trans hx2).alloc _)
                  | ok k n v =>
                    have hnr := (tok1_len ht)
                    rw [List.length_cons, List.length_drop, list_size] at hnr
                    have hn0 : 0 < n := hnr.1
                    have hnz : a + n ≤ s.size := by omega
                    have HRO := Lib.hid (fun X e W' (hp : TPost (tok1 (b :: s.data.toList.drop (a + 1))) (s.extract a s.size) X e W') => tpost_okk ht (el.trans HLL.out) hp)
                    have HFIN := Lib.hid (HOK.out k n v ht)
                    clear hbk HLX HLL h35 hlo el HER HOK ht hnr hdi h64
                    go_upto_region 23 with (first | (go_at_call 14; refine (HC.out _).mono ?_; rintro e w1 ⟨rfl, hx1⟩) | (go_at_call 17; refine (HLE.out _).mono ?_; rintro e w2 ⟨rfl, rfl⟩) | (go_at_call 19; refine (HDI.out _).mono ?_; rintro e w2 ⟨rfl, rfl⟩) | (go_at_call 13; refine (HRD.out _).mono ?_; intro e' w2 hp; obtain ⟨S, hSn, HS, rfl, hx2⟩ := HRO.out _ _ _ hp; clear hp))
                    have hxx := hx1.trans hx2
                    have hown := own_new (HO.out.ext hxx) (Nat.le_refl _)
                    obtain ⟨A5, c5, w5, hrun, ho5, hb5, hk5⟩ := ap23_one (w2.alloc (.cells #[.int .i64 k, .int .i64 a, .string S, .int .i64 v] 35)) ((HO.out.ext hxx).ext ((Ext.refl _).alloc _)) k a v S (S.data.toList) rfl (w2.heap.size + 1) (by simp) (by omega) (by simp; exact Nat.le_trans HX.out.lt (Nat.le_trans hxx.lt (Nat.le_succ _)))
                    have hk6 := hk5 w2.heap.size (by simp) hown
                    have hc2 : w5.cell? ⟨w2.heap.size, 2, none⟩ = some (.string S) := by
                      rw [cell_of_row w5 w2.heap.size _ _ 35 (0, 0) (hk6.trans (heap_alloc_new w2 _))]; rfl
                    have HO5 := Lib.hid ho5
                    have HB5 := Lib.hid hb5
                    have HXX := Lib.hid hxx
                    clear ho5 hb5 hk5 hk6 hown hx1 hx2 hxx
                    have han : (a : Int) + (n : Int) ≤ 4000 := by omega
                    go_wp2_with (first | (at_builtin; refine wpList_append_run (s := .tmp 58) (x := .tmp 60) hrun rfl rfl rfl rfl rfl ?_))
                    refine ⟨⟨a + n, A5, c5, pre ++ [⟨k, a, S.data.toList, v⟩], by rw [list_size]; omega, by simp, by rw [List.length_append]; rfl, HO5.out, ?_, by rw [List.length_append, List.length_singleton]; omega, ?_⟩, by simp [tokM]; omega⟩
                    · exact Below.trans ((HX.out.trans HXX.out).alloc _) HB5.out
                    · rw [HS.out]; exact HFIN.out
      · obtain rfl : a = s.size := by omega
        have HFIN := Lib.hid (show lexW 0 s.data.toList = ⟨pre ++ [⟨0, (s.size : Nat), [], 0⟩], 0, 0⟩ by
          rw [HLX.out, drop_end s s.size (by omega), lex_end rfl, putAll_ok rfl]; rfl)
        clear HLX hal
        obtain ⟨A5, c5, w5, hrun, ho5, hb5, _⟩ := ap23_one wr HO.out 0 s.size 0 ⟨#[]⟩ [] rfl wr.heap.size rfl (by omega) HX.out.lt
        have HO5 := Lib.hid ho5
        have HB5 := Lib.hid hb5
        clear ho5 hb5
        have hni : ¬ ((s.size : Int) < (s.size : Int)) := by omega
        go_wp2_with (first | (at_builtin; refine wpList_append_run (s := .tmp 67) (x := .tmp 70) hrun rfl rfl rfl rfl rfl ?_))
        refine bodyPost_ret (v := .tuple #[.slice A5 (pre.length + 1) c5, .int .i64 0, .int .i64 0]) (by simp [results, Tryz.results6, go_sem]) rfl ?_
        obtain ⟨A9, c9, e9, hc9, hs9⟩ := OL.form tcf_len HO5.out
        injection e9 with e1 e2 e3
        subst e1 e3
        rw [HT.out, HFIN.out]
        rw [List.length_append] at hs9 hc9
        exact ⟨A5, c5, by rw [List.length_append]; rfl, by rw [List.length_append]; exact hs9, Below.trans HX.out HB5.out, by rw [List.length_append]; exact hc9⟩
end Go.Proofs.YtngjghblpbdciaaGreatDoor

/- Plain law: the date of a day, and back. -/
namespace Go.Proofs.YtngjghblpbdciaaGreatDoor
open Go

/-- The days of a cycle ahead of a year of it, which begins in March. -/
def eS (y : Nat) : Nat := 365 * y + y / 4 - y / 100
def eN (d : Nat) : Nat := d - d / 1460 + d / 36524 - d / 146096
def eHi (y : Nat) : Nat := if y = 399 then 146096 else eS (y + 1) - 1
theorem eN_mono {a b : Nat} (h : a ≤ b) (hb : b ≤ 146096) : eN a ≤ eN b := by
  unfold eN; omega
theorem ends : ((List.range 400).all fun y => decide (eN (eS y) / 365 = y) && decide (eN (eHi y) / 365 = y)) = true := by decide +kernel
theorem ends_at {y : Nat} (h : y < 400) : eN (eS y) / 365 = y ∧ eN (eHi y) / 365 = y := by
  have := List.all_eq_true.1 ends y (List.mem_range.2 h)
  simpa using this
theorem eS_hi {y : Nat} (h : y < 399) : eHi y + 1 = eS (y + 1) := by
  unfold eHi; rw [if_neg (by omega)]
  unfold eS; omega
theorem yoe_ok {d : Nat} (hd : d ≤ 146096) : eN d / 365 ≤ 399 ∧ eS (eN d / 365) ≤ d ∧ d ≤ eHi (eN d / 365) := by
  have h1 : eN d / 365 ≤ 399 := by
    have := eN_mono hd (Nat.le_refl _)
    have h2 : eN 146096 = 145999 := by decide
    omega
  refine ⟨h1, ?_, ?_⟩
  · rcases Nat.lt_or_ge d (eS (eN d / 365)) with h | h
    · exfalso
      by_cases h0 : eN d / 365 = 0
      · rw [h0] at h; simp [eS] at h
      · obtain ⟨y, hy⟩ : ∃ y, eN d / 365 = y + 1 := ⟨eN d / 365 - 1, by omega⟩
        have h2 := eS_hi (y := y) (by omega)
        rw [hy] at h
        have h3 := eN_mono (show d ≤ eHi y by omega) (by unfold eS at h2; omega)
        have h4 := (ends_at (y := y) (by omega)).2
        omega
    · exact h
  · rcases Nat.lt_or_ge (eHi (eN d / 365)) d with h | h
    · exfalso
      by_cases h0 : eN d / 365 = 399
      · rw [h0] at h; simp [eHi] at h; omega
      · have h2 := eS_hi (y := eN d / 365) (by omega)
        have h3 := eN_mono (show eS (eN d / 365 + 1) ≤ d by omega) hd
        have h4 := (ends_at (y := eN d / 365 + 1) (by omega)).1
        omega
    · exact h
/-- The year (of March), the month and the day of a day; as the code reckons. -/
def ofD (d : Nat) : Nat × Nat × Nat :=
  let z := d + 306
  let doe := z % 146097
  let yoe := eN doe / 365
  let doy := doe - eS yoe
  let m := (5 * doy + 2) / 153
  let y := yoe + 400 * (z / 146097)
  let dd := doy - (153 * m + 2) / 5 + 1
  if m ≥ 10 then (y + 1, m - 9, dd) else (y, m + 3, dd)
theorem mlen_at (y m : Nat) (h1 : 1 ≤ m) (h2 : m ≤ 12) : mlen y m = if m = 2 then (if leap y then 29 else 28) else if m = 4 ∨ m = 6 ∨ m = 9 ∨ m = 11 then 30 else 31 := by
  rw [mlen]
  by_cases h : m = 2
  · rw [if_pos h, if_pos h]
  · rw [if_neg h, if_neg h]
    by_cases h3 : m = 4 ∨ m = 6 ∨ m = 9 ∨ m = 11
    · rw [if_pos h3, if_pos h3]
    · rw [if_neg h3, if_neg h3, if_pos ⟨h1, h2⟩]
theorem leap_iff (y : Nat) : leap y = true ↔ (y % 4 = 0 ∧ (y % 100 ≠ 0 ∨ y % 400 = 0)) := by
  unfold leap; simp
theorem ofD_ok {d : Nat} (hd : d ≤ 3652058) : dateB (ofD d).1 (ofD d).2.1 (ofD d).2.2 = true ∧ dayNo (ofD d).1 (ofD d).2.1 (ofD d).2.2 = d := by
  obtain ⟨era, he⟩ : ∃ e, e = (d + 306) / 146097 := ⟨_, rfl⟩
  obtain ⟨doe, hdoe⟩ : ∃ e, e = (d + 306) % 146097 := ⟨_, rfl⟩
  have hz : d + 306 = 146097 * era + doe := by omega
  have hdl : doe ≤ 146096 := by omega
  obtain ⟨y1, y2, y3⟩ := yoe_ok hdl
  obtain ⟨yoe, hyoe⟩ : ∃ y, y = eN doe / 365 := ⟨_, rfl⟩
  rw [← hyoe] at y1 y2 y3
  obtain ⟨doy, hdoy⟩ : ∃ y, y = doe - eS yoe := ⟨_, rfl⟩
  have hdd : doe = eS yoe + doy := by omega
  have hlp : doy ≤ 364 ∨ (doy = 365 ∧ leap (yoe + 400 * era + 1) = true) := by
    by_cases h9 : yoe = 399
    · subst h9
      have e1 : eS 399 = 145731 := by decide
      have e2 : eHi 399 = 146096 := by decide
      by_cases h5 : doy = 365
      · exact .inr ⟨h5, (leap_iff _).2 (by omega)⟩
      · exact .inl (by omega)
    · have h2 := eS_hi (y := yoe) (by omega)
      by_cases h5 : doy ≤ 364
      · exact .inl h5
      · have a1 : (yoe + 1) / 4 = yoe / 4 + (if (yoe + 1) % 4 = 0 then 1 else 0) := by split <;> omega
        have a2 : (yoe + 1) / 100 = yoe / 100 + (if (yoe + 1) % 100 = 0 then 1 else 0) := by split <;> omega
        have h6 : doy = 365 ∧ (yoe + 1) % 4 = 0 ∧ ¬ (yoe + 1) % 100 = 0 := by
          unfold eS at h2 hdd
          rw [a1, a2] at h2
          by_cases b1 : (yoe + 1) % 4 = 0
          · by_cases b2 : (yoe + 1) % 100 = 0
            · rw [if_pos b1, if_pos b2] at h2; omega
            · rw [if_pos b1, if_neg b2] at h2; omega
          · by_cases b2 : (yoe + 1) % 100 = 0
            · omega
            · rw [if_neg b1, if_neg b2] at h2; omega
        exact .inr ⟨h6.1, (leap_iff _).2 (by omega)⟩
  have hof : ofD d = if (5 * doy + 2) / 153 ≥ 10 then (yoe + 400 * era + 1, (5 * doy + 2) / 153 - 9, doy - (153 * ((5 * doy + 2) / 153) + 2) / 5 + 1) else (yoe + 400 * era, (5 * doy + 2) / 153 + 3, doy - (153 * ((5 * doy + 2) / 153) + 2) / 5 + 1) := by
    rw [hdoy, hyoe, hdoe, he]; rfl
  have hera : era ≤ 25 := by omega
  have hS : eS yoe ≤ 145731 := by unfold eS; omega
  obtain ⟨m, hm⟩ : ∃ m, m = (5 * doy + 2) / 153 := ⟨_, rfl⟩
  rw [← hm] at hof
  have hm11 : m ≤ 11 := by omega
  have hmar : 365 * (yoe + 400 * era) + (yoe + 400 * era) / 4 - (yoe + 400 * era) / 100 + (yoe + 400 * era) / 400 = 146097 * era + eS yoe := by unfold eS; omega
  have hd1 : (153 * m + 2) / 5 ≤ doy := by omega
  have hval : marN (yoe + 400 * era) m (doy - (153 * m + 2) / 5 + 1) = (d : Int) := by
    unfold marN; omega
  by_cases h10 : m ≥ 10
  · rw [hof, if_pos h10]
    show dateB (yoe + 400 * era + 1) (m - 9) (doy - (153 * m + 2) / 5 + 1) = true ∧ dayNo (yoe + 400 * era + 1) (m - 9) (doy - (153 * m + 2) / 5 + 1) = d
    have hy : yoe + 400 * era + 1 ≤ 9999 := by
      have := hmar
      omega
    have hml : doy - (153 * m + 2) / 5 + 1 ≤ mlen (yoe + 400 * era + 1) (m - 9) := by
      rw [mlen_at _ _ (by omega) (by omega)]
      by_cases hf : m - 9 = 2
      · rw [if_pos hf]
        rcases hlp with h | ⟨h1, h2⟩
        · split <;> omega
        · rw [if_pos h2]; omega
      · rw [if_neg hf, if_neg (by omega)]; omega
    refine ⟨?_, ?_⟩
    · simp only [dateB, Bool.and_eq_true, decide_eq_true_eq]
      exact ⟨by omega, hy, by omega, by omega, by omega, hml⟩
    · have := dayNo_mar (y := yoe + 400 * era + 1) (m := m - 9) (d := doy - (153 * m + 2) / 5 + 1) (by omega) (by omega) (by omega) (by omega)
      rw [if_pos (by omega), show yoe + 400 * era + 1 - 1 = yoe + 400 * era by omega, show m - 9 + 9 = m by omega, hval] at this
      omega
  · rw [hof, if_neg h10]
    show dateB (yoe + 400 * era) (m + 3) (doy - (153 * m + 2) / 5 + 1) = true ∧ dayNo (yoe + 400 * era) (m + 3) (doy - (153 * m + 2) / 5 + 1) = d
    have hy0 : 1 ≤ yoe + 400 * era := by
      rcases Nat.eq_zero_or_pos (yoe + 400 * era) with h | h
      · exfalso
        have h1 : yoe = 0 := by omega
        have h2 : era = 0 := by omega
        subst h1 h2
        have : eS 0 = 0 := by decide
        omega
      · exact h
    have hy : yoe + 400 * era ≤ 9999 := by
      have := hmar
      omega
    have hml : doy - (153 * m + 2) / 5 + 1 ≤ mlen (yoe + 400 * era) (m + 3) := by
      rw [mlen_at _ _ (by omega) (by omega), if_neg (by omega)]
      rcases (by omega : m = 0 ∨ m = 1 ∨ m = 2 ∨ m = 3 ∨ m = 4 ∨ m = 5 ∨ m = 6 ∨ m = 7 ∨ m = 8 ∨ m = 9) with h | h | h | h | h | h | h | h | h | h <;> (rw [h]; split <;> omega)
    refine ⟨?_, ?_⟩
    · simp only [dateB, Bool.and_eq_true, decide_eq_true_eq]
      exact ⟨hy0, hy, by omega, by omega, by omega, hml⟩
    · have := dayNo_mar (y := yoe + 400 * era) (m := m + 3) (d := doy - (153 * m + 2) / 5 + 1) hy0 (by omega) (by omega) (by omega)
      rw [if_neg (by omega), show m + 3 - 3 = m by omega, hval] at this
      omega
end Go.Proofs.YtngjghblpbdciaaGreatDoor

/- The contract of date.Of. -/
namespace Go.Proofs.YtngjghblpbdciaaGreatDoor
open Go Go.RowKit

def OfPost (d : Nat) (w : World) (e : Ending) (w' : World) : Prop :=
  e = .returned (.tuple #[.agg #[.int .i64 ((ofD d).1 : Nat), .int .i64 ((ofD d).2.1 : Nat), .int .i64 ((ofD d).2.2 : Nat)], .int .i64 0]) ∧ Ext w w'
theorem ofD_parts (d era doe yoe doy m : Nat) (h1 : era = (d + 306) / 146097) (h2 : doe = (d + 306) % 146097) (h3 : yoe = eN doe / 365) (h4 : doy = doe - eS yoe) (h5 : m = (5 * doy + 2) / 153) :
    ofD d = if m ≥ 10 then (yoe + 400 * era + 1, m - 9, doy - (153 * m + 2) / 5 + 1) else (yoe + 400 * era, m + 3, doy - (153 * m + 2) / 5 + 1) := by
  rw [h5, h4, h3, h2, h1]; rfl
set_option maxHeartbeats 4000000 in
set_option maxRecDepth 100000 in
theorem of_any (d : Nat) (w : World) (hd : d ≤ 3652058) : Calls Tryz.prog 22 #[.int .i64 d] w (OfPost d w) := by
  obtain ⟨era, he⟩ : ∃ e, e = (d + 306) / 146097 := ⟨_, rfl⟩
  obtain ⟨doe, hdoe⟩ : ∃ e, e = (d + 306) % 146097 := ⟨_, rfl⟩
  obtain ⟨yoe, hyoe⟩ : ∃ y, y = eN doe / 365 := ⟨_, rfl⟩
  obtain ⟨doy, hdoy⟩ : ∃ y, y = doe - eS yoe := ⟨_, rfl⟩
  obtain ⟨m, hm⟩ : ∃ y, y = (5 * doy + 2) / 153 := ⟨_, rfl⟩
  have hof := ofD_parts d era doe yoe doy m he hdoe hyoe hdoy hm
  have hdl : doe ≤ 146096 := by omega
  obtain ⟨y1, y2, y3⟩ := yoe_ok hdl
  rw [← hyoe] at y1 y2 y3
  have hHi : eHi yoe ≤ eS yoe + 365 := by
    unfold eHi
    split
    · rename_i h; rw [h]; decide
    · unfold eS; omega
  have hera : era ≤ 25 := by omega
  have hdy : doy ≤ 365 := by omega
  have hm11 : m ≤ 11 := by omega
  have hd1 : (153 * m + 2) / 5 ≤ doy := by omega
  have g0 : ¬ (d : Int) < 0 := by omega
  have g1 : ¬ (3652058 : Int) < (d : Int) := by omega
  have e1 : ((d : Int) + 306) / 146097 = (era : Int) := by omega
  have e2 : ((d : Int) + 306) % 146097 = (doe : Int) := by omega
  have e3 : ((doe : Int) - (doe : Int) / 1460 + (doe : Int) / 36524 - (doe : Int) / 146096) / 365 = (yoe : Int) := by rw [hyoe]; unfold eN; omega
  have e4 : (doe : Int) - (365 * (yoe : Int) + (yoe : Int) / 4 - (yoe : Int) / 100) = (doy : Int) := by rw [hdoy]; unfold eS at y2 ⊢; omega
  have e5 : (5 * (doy : Int) + 2) / 153 = (m : Int) := by omega
  have E1 := Lib.hid e1
  have E2 := Lib.hid e2
  have E3 := Lib.hid e3
  have E4 := Lib.hid e4
  have E5 := Lib.hid e5
  have HOF := Lib.hid hof
  have HD1 := Lib.hid hd1
  clear e1 e2 e3 e4 e5 hof hm hdoy hyoe hdoe he y2 y3 hHi hd1
  go_enter Tryz.func22, Tryz.ntmps22
  go_upto_region 6 with (fail)
  rw [E1.out, E2.out]
  go_upto_region 7 with (fail)
  rw [E3.out]
  go_upto_region 8 with (fail)
  rw [E4.out]
  go_upto_region 9 with (fail)
  rw [E5.out]
  by_cases h10 : 10 ≤ m
  · have h10I : (10 : Int) ≤ (m : Int) := by omega
    have HF := Lib.hid (show ofD d = (yoe + 400 * era + 1, m - 9, doy - (153 * m + 2) / 5 + 1) by rw [HOF.out, if_pos h10])
    have HF1 := Lib.hid (show (yoe : Int) + 400 * (era : Int) + 1 = ((yoe + 400 * era + 1 : Nat) : Int) by omega)
    have HF2 := Lib.hid (show (m : Int) - 9 = ((m - 9 : Nat) : Int) by omega)
    have HF3 := Lib.hid (show (doy : Int) - (153 * (m : Int) + 2) / 5 + 1 = ((doy - (153 * m + 2) / 5 + 1 : Nat) : Int) by have := HD1.out; omega)
    clear h10
    go_wp2
    refine bodyPost_ret (v := .tuple #[.agg #[.int .i64 ((yoe : Int) + 400 * (era : Int) + 1), .int .i64 ((m : Int) - 9), .int .i64 ((doy : Int) - (153 * (m : Int) + 2) / 5 + 1)], .int .i64 0]) (by simp [results, Tryz.results22, go_sem, *]) rfl ?_
    refine ⟨by rw [HF.out, HF1.out, HF2.out, HF3.out], ?_⟩
    repeat (first | exact Ext.refl _ | apply Ext.alloc)
  · have h10I : ¬ (10 : Int) ≤ (m : Int) := by omega
    have HF := Lib.hid (show ofD d = (yoe + 400 * era, m + 3, doy - (153 * m + 2) / 5 + 1) by rw [HOF.out, if_neg h10])
    have HF1 := Lib.hid (show (yoe : Int) + 400 * (era : Int) = ((yoe + 400 * era : Nat) : Int) by omega)
    have HF2 := Lib.hid (show (m : Int) + 3 = ((m + 3 : Nat) : Int) by omega)
    have HF3 := Lib.hid (show (doy : Int) - (153 * (m : Int) + 2) / 5 + 1 = ((doy - (153 * m + 2) / 5 + 1 : Nat) : Int) by have := HD1.out; omega)
    clear h10
    go_wp2
    refine bodyPost_ret (v := .tuple #[.agg #[.int .i64 ((yoe : Int) + 400 * (era : Int)), .int .i64 ((m : Int) + 3), .int .i64 ((doy : Int) - (153 * (m : Int) + 2) / 5 + 1)], .int .i64 0]) (by simp [results, Tryz.results22, go_sem, *]) rfl ?_
    refine ⟨by rw [HF.out, HF1.out, HF2.out, HF3.out], ?_⟩
    repeat (first | exact Ext.refl _ | apply Ext.alloc)
end Go.Proofs.YtngjghblpbdciaaGreatDoor

/- Plain law: cut off texts, texts that are woven anew, what stands between tokens. -/
namespace Go.Proofs.YtngjghblpbdciaaGreatDoor
open Go

/-! ### An error stays where it is -/
/-! ### Tokens but for their places -/
/-- The tokens of a text without an error. -/
def TokOK (t : Tk) : Prop := t.tx ≠ [] ∧ t.kd ≠ 0 ∧ tok1 t.tx = .ok t.kd t.tx.length t.nm
theorem tok1_kind {s : List UInt8} {kd : Int} {n : Nat} {v : Int} (h : tok1 s = .ok kd n v) : 1 ≤ kd ∧ kd ≤ 4 := by
  cases s with
  | nil => cases h
  | cons c r =>
    rw [tok1_cons] at h
    repeat' split at h
    all_goals first | (injection h with h1 _ _; subst h1; decide) | cases h
theorem tok1_ok {s : List UInt8} {kd : Int} {n : Nat} {v : Int} (h : tok1 s = .ok kd n v) (a : Int) : TokOK ⟨kd, a, s.take n, v⟩ := by
  obtain ⟨h1, h2⟩ := tok1_len h
  have hl : (s.take n).length = n := by rw [List.length_take]; omega
  refine ⟨fun e => ?_, ?_, ?_⟩
  · have := congrArg List.length e
    rw [hl] at this; simp at this; omega
  · have := tok1_kind h; show kd ≠ 0; omega
  · show tok1 (s.take n) = .ok kd (s.take n).length v
    rw [hl]; exact tok1_take h (Nat.le_refl _)
theorem lex_toks : ∀ (m : Nat) (s : List UInt8), s.length ≤ m → ∀ k, (lexW k s).e = 0 → (lexW k s).off = 0 ∧ ∃ ts, (lexW k s).l = ts ++ [endT (k + s.length)] ∧ ∀ t ∈ ts, TokOK t := by
  intro m
  induction m with
  | zero =>
    intro s hs k he
    obtain rfl : s = [] := List.length_eq_zero_iff.1 (by omega)
    rw [lex_end (k := k) (s := []) rfl]
    exact ⟨rfl, [], rfl, fun t h => by cases h⟩
  | succ m ih =>
    intro s hs k he
    have hl := skipB_len false s
    rcases lex_cases k s with ⟨h0, h1⟩ | ⟨e, h0, ht, hne, h1⟩ | ⟨kd, n, v, h0, ht, hn, hnl, h1⟩
    · rw [h1]; exact ⟨rfl, [], rfl, fun t h => by cases h⟩
    · rw [h1] at he; exact absurd he hne
    · have hr := rest_lt h0 hn
      rw [h1, put_e] at he
      obtain ⟨g1, ts, g2, g3⟩ := ih ((skipB false s).drop n) (by omega) _ he
      rw [h1, put_ok he]
      refine ⟨g1, ⟨kd, (k + (s.length - (skipB false s).length) : Nat), (skipB false s).take n, v⟩ :: ts, ?_, ?_⟩
      · show _ :: _ = _
        rw [g2, List.length_drop, show k + (s.length - (skipB false s).length) + n + ((skipB false s).length - n) = k + s.length by omega]
        rfl
      · intro t ht2
        rcases List.mem_cons.1 ht2 with rfl | h
        · exact tok1_ok ht _
        · exact g3 t h

/-! ### Weaving -/
/-! ### White space and comments alone -/
end Go.Proofs.YtngjghblpbdciaaGreatDoor

/- Plain law: numbers and dates as texts. -/
namespace Go.Proofs.YtngjghblpbdciaaGreatDoor
open Go Go.RowKit
theorem app_list (a b : ByteArray) : (a ++ b).data.toList = a.data.toList ++ b.data.toList := by simp

def dg (k : Nat) : UInt8 := UInt8.ofNat (48 + k)
theorem dec_one {n : Nat} (h : n < 10) : Lib.decDigits n = [dg n] := Lib.decDigits_one h
theorem dec_more {n : Nat} (h : ¬ n < 10) : Lib.decDigits n = Lib.decDigits (n / 10) ++ [dg (n % 10)] := by
  conv => lhs; rw [Lib.decDigits, dif_neg h]
  rfl
theorem lex_single {s : List UInt8} {k v : Int} (h : tok1 s = .ok k s.length v) : lexW 0 s = ⟨[⟨k, 0, s, v⟩, endT s.length], 0, 0⟩ := by
  have hsk : skipB false s = s := by
    have := skip_tok (x := s) (t := []) (by rw [List.append_nil]; exact h)
    rwa [List.append_nil] at this
  have hn := (tok1_len h).1
  have hne : s ≠ [] := by
    rintro rfl
    simp at hn
  rw [lex_ok (by rw [hsk]; exact hne) (by rw [hsk]; exact h) hn, hsk, List.drop_length, lex_end rfl, put_ok rfl, List.take_length]
  simp [endT]
def padL (n k : Nat) : List UInt8 := Lib.repeatL [48] (k - (Lib.decDigits n).length) ++ Lib.decDigits n
theorem dg0 : dg 0 = 48 := by decide
theorem pad2 {n : Nat} (h : n < 100) : padL n 2 = [dg (n / 10), dg (n % 10)] := by
  unfold padL
  by_cases h1 : n < 10
  · rw [dec_one h1, show n / 10 = 0 by omega, show n % 10 = n by omega, dg0]; rfl
  · rw [dec_more h1, dec_one (show n / 10 < 10 by omega)]; rfl
theorem pad4 {n : Nat} (h : n < 10000) : padL n 4 = [dg (n / 1000), dg (n / 100 % 10), dg (n / 10 % 10), dg (n % 10)] := by
  unfold padL
  by_cases h1 : n < 10
  · rw [dec_one h1, show n / 1000 = 0 by omega, show n / 100 % 10 = 0 by omega, show n / 10 % 10 = 0 by omega, show n % 10 = n by omega, dg0]; rfl
  · by_cases h2 : n < 100
    · rw [dec_more h1, dec_one (show n / 10 < 10 by omega), show n / 1000 = 0 by omega, show n / 100 % 10 = 0 by omega, show n / 10 % 10 = n / 10 by omega, dg0]; rfl
    · by_cases h3 : n < 1000
      · rw [dec_more h1, dec_more (show ¬ n / 10 < 10 by omega), dec_one (show n / 10 / 10 < 10 by omega), show n / 1000 = 0 by omega, show n / 100 % 10 = n / 10 / 10 by omega, dg0]; rfl
      · rw [dec_more h1, dec_more (show ¬ n / 10 < 10 by omega), dec_more (show ¬ n / 10 / 10 < 10 by omega), dec_one (show n / 10 / 10 / 10 < 10 by omega), show n / 1000 = n / 10 / 10 / 10 by omega, show n / 100 % 10 = n / 10 / 10 % 10 by omega]; rfl
def dtx (y m d : Nat) : List UInt8 := padL y 4 ++ (45 :: (padL m 2 ++ (45 :: padL d 2)))
theorem dtx_list {y m d : Nat} (hy : y < 10000) (hm : m < 100) (hd : d < 100) : dtx y m d = [dg (y / 1000), dg (y / 100 % 10), dg (y / 10 % 10), dg (y % 10), 45, dg (m / 10), dg (m % 10), 45, dg (d / 10), dg (d % 10)] := by
  unfold dtx; rw [pad4 hy, pad2 hm, pad2 hd]; rfl
end Go.Proofs.YtngjghblpbdciaaGreatDoor

/- The contracts of date.Print and of its closure. -/
namespace Go.Proofs.YtngjghblpbdciaaGreatDoor
open Go Go.RowKit

def Tab (w : World) : Prop := ∀ W, Ext w W → Lib.TabIs Tryz.prog W "internal/strconv.uint64pow10" .u64 Lib.pow10Tab
theorem Tab.ext {w w' : World} (h : Tab w) (hx : Ext w w') : Tab w' := fun W hW => h W (hx.trans hW)
theorem itoa_nat (n : Nat) : Lib.itoa (n : Int) = Lib.decDigits n := by unfold Lib.itoa; rw [if_neg (by omega)]; simp
theorem itoa_any (n : Nat) (w : World) (hn : n ≤ 100000) (htab : Tab w) : Calls Tryz.prog 24 #[.int .i64 n] w (StrPost (Lib.decDigits n) w) := by
  refine (Tryz.strconv_Itoa (n : Int) (by omega) (by omega) w (htab w (Ext.refl w))).mono ?_
  rintro e w2 ⟨rfl, k9, os, rfl⟩
  exact ⟨by rw [itoa_nat], Lib.below_grow _ _ (Nat.le_refl _) k9 os⟩
theorem repeat_any (c : Nat) (w : World) (hc : c ≤ 100) : Calls Tryz.prog 25 #[.string ⟨#[48]⟩, .int .i64 c] w (StrPost (Lib.repeatL [48] c) w) := by
  refine (Tryz.strings_Repeat ⟨#[48]⟩ c w (by omega) ?_).mono ?_
  · show 1 * c ≤ _; omega
  · rintro e w2 ⟨rfl, hx⟩
    exact ⟨rfl, hx⟩
set_option maxRecDepth 100000 in
theorem pad_any (n k : Nat) (w : World) (hk : k ≤ 100) (hn : n ≤ 100000) (hl : (Lib.decDigits n).length ≤ k) (htab : Tab w) : Calls Tryz.prog 23 #[.int .i64 n, .int .i64 k] w (StrPost (padL n k) w) := by
  obtain ⟨S, hS⟩ : ∃ S : ByteArray, S = ⟨(Lib.decDigits n).toArray⟩ := ⟨_, rfl⟩
  have hSs : S.size = (Lib.decDigits n).length := by rw [← list_size, hS]
  obtain ⟨m, hm⟩ : ∃ m, m = k - (Lib.decDigits n).length := ⟨_, rfl⟩
  have e1 : (k : Int) - (S.size : Int) = (m : Int) := by omega
  obtain ⟨R, hR⟩ : ∃ R : ByteArray, R = ⟨(Lib.repeatL [48] m).toArray⟩ := ⟨_, rfl⟩
  have hRs : R.size = m := by rw [← list_size, hR]; simp [Lib.repeatL_length]
  have H1 := Lib.hid (show Calls Tryz.prog 24 #[.int .i64 n] w (fun e w' => e = .returned (.string S) ∧ Ext w w') from hS ▸ itoa_any n w hn htab)
  have H2 := Lib.hid (fun X => (show Calls Tryz.prog 25 #[.string ⟨#[48]⟩, .int .i64 m] X (fun e X' => e = .returned (.string R) ∧ Ext X X') from hR ▸ repeat_any m X (by omega)))
  have HF := Lib.hid (show R ++ S = ⟨(padL n k).toArray⟩ by
    apply WideShapes.bytes_inj
    rw [app_list, hR, hS]; unfold padL; rw [hm])
  have hq : ¬ 9223372036854775807 < R.size + S.size := by omega
  have hS2 : (S.size : Int) ≤ 100 := by omega
  clear hS hR hSs hRs hm htab hl
  go_enter Tryz.func23, Tryz.ntmps23
  go_wp2_with (first | (go_at_call 24; refine H1.out.mono ?_; rintro e w1 ⟨rfl, hx1⟩) | (go_at_call 25; refine (H2.out _).mono ?_; rintro e w2 ⟨rfl, hx2⟩))
  go_ret
  exact ⟨congrArg (fun z => Ending.returned (.string z)) HF.out, hx1.trans hx2⟩
/-- A date in a block of its own. -/
structure DBox (W : World) (b : Nat) (y m d : Int) : Prop where
  lt : b < W.heap.size
  c0 : W.cell? ⟨b, 0, none⟩ = some (.int .i64 y)
  c1 : W.cell? ⟨b, 1, none⟩ = some (.int .i64 m)
  c2 : W.cell? ⟨b, 2, none⟩ = some (.int .i64 d)
theorem DBox.ext {W W' : World} {b : Nat} {y m d : Int} (h : DBox W b y m d) (hx : Ext W W') : DBox W' b y m d := by
  obtain ⟨q, _⟩ := hx.cells
  exact ⟨Nat.lt_of_lt_of_le h.lt hx.lt, by rw [q _ _ h.lt]; exact h.c0, by rw [q _ _ h.lt]; exact h.c1, by rw [q _ _ h.lt]; exact h.c2⟩
theorem DBox.new (W : World) (y m d : Int) (t : TypeId) : DBox (W.alloc (.cells #[.int .i64 y, .int .i64 m, .int .i64 d] t)) W.heap.size y m d :=
  ⟨by simp, by go_simp, by go_simp, by go_simp⟩
theorem dec_len2 {n : Nat} (h : n < 100) : (Lib.decDigits n).length ≤ 2 := by
  by_cases h1 : n < 10
  · rw [dec_one h1]; simp
  · rw [dec_more h1, dec_one (by omega)]; simp
theorem dec_len4 {n : Nat} (h : n < 10000) : (Lib.decDigits n).length ≤ 4 := by
  by_cases h1 : n < 100
  · have := dec_len2 h1; omega
  · rw [dec_more (by omega), dec_more (by omega), List.length_append, List.length_append]
    have := dec_len2 (n := n / 10 / 10) (by omega)
    simp; omega
theorem date_bounds {y m d : Nat} (hb : dateB y m d = true) : y ≤ 9999 ∧ m ≤ 12 ∧ d ≤ 31 := by
  simp only [dateB, Bool.and_eq_true, decide_eq_true_eq] at hb
  have := mlen_le y m
  omega
def prL (d : Nat) : List UInt8 := dtx (ofD d).1 (ofD d).2.1 (ofD d).2.2
theorem prL_size {d : Nat} (hd : d ≤ 3652058) : (prL d).length = 10 := by
  obtain ⟨h1, h2, h3⟩ := date_bounds (ofD_ok hd).1
  unfold prL; rw [dtx_list (by omega) (by omega) (by omega)]; rfl
set_option maxHeartbeats 4000000 in
set_option maxRecDepth 100000 in
theorem print_any (n : Nat) (w : World) (hn : n ≤ 3652058) (htab : Tab w) : Calls Tryz.prog 7 #[.int .i64 n] w (StrPost (prL n) w) := by
  have H40 := Lib.hid (fun X => of_any n X hn)
  obtain ⟨b1, b2, b3⟩ := date_bounds (ofD_ok hn).1
  obtain ⟨y, hy⟩ : ∃ y, y = (ofD n).1 := ⟨_, rfl⟩
  obtain ⟨m, hm⟩ : ∃ y, y = (ofD n).2.1 := ⟨_, rfl⟩
  obtain ⟨d, hd⟩ : ∃ y, y = (ofD n).2.2 := ⟨_, rfl⟩
  unfold OfPost at H40
  rw [← hy, ← hm, ← hd] at H40
  rw [← hy] at b1
  rw [← hm] at b2
  rw [← hd] at b3
  have hpr : prL n = dtx y m d := by unfold prL; rw [hy, hm, hd]
  have z1 : (padL y 4).length = 4 := by rw [pad4 (by omega)]; rfl
  have z2 : (padL m 2).length = 2 := by rw [pad2 (by omega)]; rfl
  have z3 : (padL d 2).length = 2 := by rw [pad2 (by omega)]; rfl
  obtain ⟨Y, hY⟩ : ∃ S : ByteArray, S = ⟨(padL y 4).toArray⟩ := ⟨_, rfl⟩
  obtain ⟨M, hM⟩ : ∃ S : ByteArray, S = ⟨(padL m 2).toArray⟩ := ⟨_, rfl⟩
  obtain ⟨D, hD⟩ : ∃ S : ByteArray, S = ⟨(padL d 2).toArray⟩ := ⟨_, rfl⟩
  have s1 : Y.size = 4 := by rw [← list_size, hY]; exact z1
  have s2 : M.size = 2 := by rw [← list_size, hM]; exact z2
  have s3 : D.size = 2 := by rw [← list_size, hD]; exact z3
  have HY := Lib.hid (fun X (hX : Ext w X) => (show Calls Tryz.prog 23 #[.int .i64 y, .int .i64 4] X (fun e X' => e = .returned (.string Y) ∧ Ext X X') from hY ▸ pad_any y 4 X (by omega) (by omega) (dec_len4 (by omega)) (htab.ext hX)))
  have HM := Lib.hid (fun X (hX : Ext w X) => (show Calls Tryz.prog 23 #[.int .i64 m, .int .i64 2] X (fun e X' => e = .returned (.string M) ∧ Ext X X') from hM ▸ pad_any m 2 X (by omega) (by omega) (dec_len2 (by omega)) (htab.ext hX)))
  have HD := Lib.hid (fun X (hX : Ext w X) => (show Calls Tryz.prog 23 #[.int .i64 d, .int .i64 2] X (fun e X' => e = .returned (.string D) ∧ Ext X X') from hD ▸ pad_any d 2 X (by omega) (by omega) (dec_len2 (by omega)) (htab.ext hX)))
  have HF := Lib.hid (show Y ++ ⟨#[45]⟩ ++ M ++ ⟨#[45]⟩ ++ D = ⟨(prL n).toArray⟩ by
    apply WideShapes.bytes_inj
    rw [app_list, app_list, app_list, app_list, hY, hM, hD, hpr]; unfold dtx; simp)
  have q1 : ¬ 9223372036854775807 < Y.size + 1 := by omega
  have q2 : ¬ 9223372036854775807 < Y.size + 1 + M.size := by omega
  have q3 : ¬ 9223372036854775807 < Y.size + 1 + M.size + 1 := by omega
  have q4 : ¬ 9223372036854775807 < Y.size + 1 + M.size + 1 + D.size := by omega
  clear hY hM hD hy hm hd hpr s1 s2 s3 z1 z2 z3 htab
  go_enter Tryz.func7, Tryz.ntmps7
  go_upto_region 5 with (first | (go_at_call 22; refine (H40.out _).mono ?_; rintro e w1 ⟨rfl, hx1⟩))
  have hbx := DBox.new w1 y m d 52
  have HX1 := Lib.hid (hx1.alloc (.cells #[.int .i64 y, .int .i64 m, .int .i64 d] 52))
  clear hx1
  generalize w1.alloc (.cells #[.int .i64 y, .int .i64 m, .int .i64 d] 52) = w2 at *
  generalize w1.heap.size = b at *
  have HQ := Lib.hid (fun W (hW : Ext w2 W) => (show W.cell? ⟨b, 0, none⟩ = some (.int .i64 y) ∧ W.cell? ⟨b, 1, none⟩ = some (.int .i64 m) ∧ W.cell? ⟨b, 2, none⟩ = some (.int .i64 d) from ⟨(hbx.ext hW).c0, (hbx.ext hW).c1, (hbx.ext hW).c2⟩))
  obtain ⟨k0, k1, k2⟩ := HQ.out w2 (Ext.refl _)
  have hcur : Ext w2 w2.drew := (Ext.refl _).drew
  clear hbx
  go_region_held3 (fun W => W.cell? ⟨b, 0, none⟩ = some (.int .i64 y) ∧ W.cell? ⟨b, 1, none⟩ = some (.int .i64 m) ∧ W.cell? ⟨b, 2, none⟩ = some (.int .i64 d)) (first | exact HQ.out _ hcur | go_keep)
    (first
      | (go_at_call_of 23 (Value.int IntKind.i64 (y : Int)); refine (HY.out _ (HX1.out.trans hcur)).mono ?_; rintro e wn ⟨rfl, hx⟩; have hcur := hcur.trans hx; clear hx)
      | (go_at_call_of 23 (Value.int IntKind.i64 (m : Int)); refine (HM.out _ (HX1.out.trans hcur)).mono ?_; rintro e wn ⟨rfl, hx⟩; have hcur := hcur.trans hx; clear hx)
      | (go_at_call_of 23 (Value.int IntKind.i64 (d : Int)); refine (HD.out _ (HX1.out.trans hcur)).mono ?_; rintro e wn ⟨rfl, hx⟩; have hcur := hcur.trans hx; clear hx))
  go_wp2
  go_ret
  exact ⟨congrArg (fun z => Ending.returned (.string z)) HF.out, HX1.out.trans hcur⟩
end Go.Proofs.YtngjghblpbdciaaGreatDoor

/- The law FactsWords: its plain law; Short; the days that are none. -/
namespace Go.Proofs.YtngjghblpbdciaaGreatDoor
open Go Go.RowKit

theorem let_low (c : UInt8) : Fa.letB c = low c := by
  unfold Fa.letB low
  congr 1 <;> exact decide_eq_decide.2 (by omega)
theorem dig_dig (c : UInt8) : Fa.digB c = dig c := by
  unfold Fa.digB dig
  congr 1 <;> exact decide_eq_decide.2 (by omega)
theorem wch_wch (c : UInt8) : Fa.wchB c = wch c := by unfold Fa.wchB wch; rw [let_low, dig_dig]
theorem tw_whole {p : UInt8 → Bool} : ∀ {l : List UInt8}, l.all p = true → l.takeWhile p = l
  | [], _ => rfl
  | c :: r, h => by
    rw [List.all_cons, Bool.and_eq_true] at h
    rw [List.takeWhile_cons, h.1, if_pos rfl, tw_whole h.2]
theorem tw_len {p : UInt8 → Bool} : ∀ (l : List UInt8), (l.takeWhile p).length = l.length → l.all p = true
  | [], _ => rfl
  | c :: r, h => by
    cases hc : p c with
    | false => rw [List.takeWhile_cons, hc] at h; simp at h
    | true =>
      rw [List.takeWhile_cons, hc] at h
      simp only [if_true, List.length_cons, Nat.add_right_cancel_iff] at h
      rw [List.all_cons, hc, tw_len r h]; rfl
/-- A word in facts is one token of the lexer. -/
theorem word_tok {K : ByteArray} (h : Fa.wordB K = true) : tok1 K.data.toList = .ok 1 K.data.toList.length 0 := by
  unfold Fa.wordB at h
  simp only [Bool.and_eq_true, decide_eq_true_eq] at h
  obtain ⟨⟨⟨h1, h2⟩, h3⟩, h4⟩ := h
  have hl : K.data.toList.length = K.size := list_size K
  have ha : K.data.toList.all wch = true := by
    rw [List.all_eq_true] at h4 ⊢
    intro c hc; rw [← wch_wch]; exact h4 c hc
  cases hs : K.data.toList with
  | nil => rw [hs] at hl; simp at hl; omega
  | cons c r =>
    rw [hs] at h3 ha hl
    rw [tok1_cons, if_pos (by rw [← let_low]; simpa using h3), tw_whole ha, if_neg (by omega)]
/-- A token of the lexer that is a word is a word in facts. -/
theorem tok_word {K : ByteArray} {v : Int} (h : tok1 K.data.toList = .ok 1 K.data.toList.length v) : Fa.wordB K = true := by
  have hl : K.data.toList.length = K.size := list_size K
  unfold Fa.wordB
  cases hs : K.data.toList with
  | nil => rw [hs] at h; cases h
  | cons c r =>
    rw [hs, tok1_cons] at h
    rw [hs] at hl
    have hlow : low c = true := by
      cases hc : low c with
      | true => rfl
      | false =>
        exfalso
        rw [hc, if_neg (by decide)] at h
        split at h
        · split at h
          · cases h
          · split at h
            · cases h
            · injection h with h4; exact absurd h4 (by decide)
        · split at h
          · split at h
            · split at h
              · injection h with h4; exact absurd h4 (by decide)
              · cases h
            · cases h
          · split at h
            · cases h
            · injection h with h4; exact absurd h4 (by decide)
    rw [if_pos hlow] at h
    split at h
    · cases h
    · rename_i h12
      injection h with _ h5 _
      have ha := tw_len _ h5
      have hsz : (c :: r).length = K.size := hl
      simp only [Bool.and_eq_true, decide_eq_true_eq]
      refine ⟨⟨⟨by simp at hsz; omega, by omega⟩, by rw [let_low]; exact hlow⟩, ?_⟩
      rw [List.all_eq_true] at ha ⊢
      intro d hd; rw [wch_wch]; exact ha d hd
/-- The lexer reads it as a single word. -/
theorem lex_word {K : ByteArray} (hk : K.size ≤ 20) (h : Fa.wordB K = true) : lexT K.data.toList = ⟨[⟨1, 0, K.data.toList, 0⟩, endT K.data.toList.length], 0, 0⟩ := by
  rw [lexT, if_neg (by rw [list_size]; omega)]
  exact lex_single (word_tok h)
theorem word_lex {K : ByteArray} (hk : K.size ≤ 20) (he : (lexT K.data.toList).e = 0) {t u : Tk} (hl : (lexT K.data.toList).l = [t, u]) (hkd : t.kd = 1) (htx : t.tx = K.data.toList) : Fa.wordB K = true := by
  have e : lexT K.data.toList = lexW 0 K.data.toList := by rw [lexT, if_neg (by rw [list_size]; omega)]
  rw [e] at he hl
  obtain ⟨_, ts, h1, h2⟩ := lex_toks _ K.data.toList (Nat.le_refl _) 0 he
  rw [h1] at hl
  cases ts with
  | nil => simp at hl
  | cons a ts =>
    simp only [List.cons_append, List.cons.injEq] at hl
    obtain ⟨rfl, _⟩ := hl
    have h3 := (h2 a (List.mem_cons_self ..)).2.2
    rw [hkd, htx] at h3
    exact tok_word h3
def vOf (K : ByteArray) (day : Int) : Fa.Vr := ⟨0, false, ⟨0, K, day, 0, 0, 0⟩⟩
theorem wrong_v (K : ByteArray) (day : Int) : Fa.wrongOf [] (vOf K day) = if Fa.wordB K = true ∧ 0 ≤ day ∧ day ≤ 3652058 then 0 else 5 := by
  unfold Fa.wrongOf vOf Fa.okF Fa.inB
  by_cases h1 : Fa.wordB K = true
  · by_cases h2 : 0 ≤ day ∧ day ≤ 3652058
    · simp [h1, h2.1, h2.2]
    · have h3 : (decide (0 ≤ day) && decide (day ≤ 3652058)) = false := by
        rw [Bool.and_eq_false_iff, decide_eq_false_iff_not, decide_eq_false_iff_not]; omega
      simp [h1, h3]
      omega
  · simp [h1]
theorem check_v {K : ByteArray} {day : Int} (h : Fa.wrongOf [] (vOf K day) = 0) : Fa.checkOf [vOf K day] = 0 := by
  unfold Fa.checkOf
  rw [show [vOf K day].length = 0 + 1 from rfl, Fa.check_step (by simp) rfl]
  exact h
theorem short4_any (s : ByteArray) (w : World) (_hs : s.size ≤ 281474976710656) : Calls Tryz.prog 4 #[.string s, .int .i64 20] w (fun e w' => ∃ K : ByteArray, K.size ≤ 20 ∧ e = .returned (.string K) ∧ w = w') := by
  by_cases h : s.size ≤ 20
  · have hmn : min (s.size : Int) 20 = (s.size : Int) := by omega
    go_enter Tryz.func4, Tryz.ntmps4
    go_wp2
    go_ret
    exact ⟨s, h, rfl, rfl⟩
  · have hmn : min (s.size : Int) 20 = 20 := by omega
    go_enter Tryz.func4, Tryz.ntmps4
    go_wp2
    go_ret
    exact ⟨s.extract 0 20, by rw [ByteArray.size_extract]; omega, rfl, rfl⟩
theorem of_bad (d : Int) (w : World) (hd : d < 0 ∨ 3652058 < d) : Calls Tryz.prog 22 #[.int .i64 d] w (fun e w' => e = .returned (.tuple #[.agg #[.int .i64 0, .int .i64 0, .int .i64 0], .int .i64 5]) ∧ Ext w w') := by
  rcases hd with h | h
  · go_enter Tryz.func22, Tryz.ntmps22
    go_wp2
    refine bodyPost_ret (v := .tuple #[.agg #[.int .i64 0, .int .i64 0, .int .i64 0], .int .i64 5]) (by simp [results, Tryz.results22, go_sem, *]) rfl ?_
    exact ⟨rfl, by first | exact Ext.refl _ | exact (Ext.refl _).alloc _ | exact ((((Ext.refl w).alloc _).setCell (p := ⟨w.heap.size, 0, none⟩) (Nat.le_refl _) _).setCell (p := ⟨w.heap.size, 1, none⟩) (Nat.le_refl _) _).setCell (p := ⟨w.heap.size, 2, none⟩) (Nat.le_refl _) _⟩
  · have h0 : ¬ d < 0 := by omega
    go_enter Tryz.func22, Tryz.ntmps22
    go_wp2
    refine bodyPost_ret (v := .tuple #[.agg #[.int .i64 0, .int .i64 0, .int .i64 0], .int .i64 5]) (by simp [results, Tryz.results22, go_sem, *]) rfl ?_
    exact ⟨rfl, by first | exact Ext.refl _ | exact (Ext.refl _).alloc _ | exact ((((Ext.refl w).alloc _).setCell (p := ⟨w.heap.size, 0, none⟩) (Nat.le_refl _) _).setCell (p := ⟨w.heap.size, 1, none⟩) (Nat.le_refl _) _).setCell (p := ⟨w.heap.size, 2, none⟩) (Nat.le_refl _) _⟩
theorem print_bad (d : Int) (w : World) (hd : d < 0 ∨ 3652058 < d) : Calls Tryz.prog 7 #[.int .i64 d] w (fun e w' => e = .returned (.string ⟨#[]⟩) ∧ Ext w w') := by
  have HB := Lib.hid (fun X => of_bad d X hd)
  clear hd
  go_enter Tryz.func7, Tryz.ntmps7
  go_wp2_with (first | (go_at_call 22; refine (HB.out _).mono ?_; rintro e w1 ⟨rfl, hx⟩))
  go_ret
  exact ⟨rfl, by first | exact hx | exact hx.alloc _ | exact (hx.alloc _).alloc _⟩
end Go.Proofs.YtngjghblpbdciaaGreatDoor

/- The law FactsWords walked. -/
namespace Go.Proofs.YtngjghblpbdciaaGreatDoor
open Go Go.RowKit

def EnvW (w : World) : Prop := (EnvR w ∧ EnvL w) ∧ Tab w
theorem EnvR.later {w w' : World} (h : EnvR w) (hx : Ext w w') : EnvR w' := EnvR.ext h hx
/-- A version in a block of its own, whole. -/
def VX (W : World) (g : Nat) (v : Fa.Vr) : Prop := W.heap[g]? = some (.cells #[.int .i64 v.op, .bool v.st, .int .i64 v.fc.en, .string v.fc.kd, .int .i64 v.fc.day, .int .i64 v.fc.byy, .int .i64 v.fc.too, .int .i64 v.fc.am] 26 (0, 0))
theorem VX.cs {W : World} {g : Nat} {v : Fa.Vr} (h : VX W g v) : g < W.heap.size ∧ W.cell? ⟨g, 0, none⟩ = some (.int .i64 v.op) ∧ W.cell? ⟨g, 1, none⟩ = some (.bool v.st) ∧ W.cell? ⟨g, 2, none⟩ = some (.int .i64 v.fc.en) ∧ W.cell? ⟨g, 3, none⟩ = some (.string v.fc.kd) ∧ W.cell? ⟨g, 4, none⟩ = some (.int .i64 v.fc.day) ∧ W.cell? ⟨g, 5, none⟩ = some (.int .i64 v.fc.byy) ∧ W.cell? ⟨g, 6, none⟩ = some (.int .i64 v.fc.too) ∧ W.cell? ⟨g, 7, none⟩ = some (.int .i64 v.fc.am) :=
  ⟨lt_of_block h, by rw [cell_of_row W _ _ _ 26 (0, 0) h]; rfl, by rw [cell_of_row W _ _ _ 26 (0, 0) h]; rfl, by rw [cell_of_row W _ _ _ 26 (0, 0) h]; rfl, by rw [cell_of_row W _ _ _ 26 (0, 0) h]; rfl, by rw [cell_of_row W _ _ _ 26 (0, 0) h]; rfl, by rw [cell_of_row W _ _ _ 26 (0, 0) h]; rfl, by rw [cell_of_row W _ _ _ 26 (0, 0) h]; rfl, by rw [cell_of_row W _ _ _ 26 (0, 0) h]; rfl⟩
theorem VX.ext {W W' : World} {g : Nat} {v : Fa.Vr} (h : VX W g v) (hx : Ext W W') : VX W' g v := (hx.block g (lt_of_block h)).trans h
set_option maxHeartbeats 4000000 in
set_option maxRecDepth 100000 in
theorem words_any (kind : ByteArray) (day : Int) (w : World) (hk : kind.size ≤ 281474976710656) (hd : -9223372036854775808 ≤ day ∧ day ≤ 9223372036854775807) (hE : EnvW w) :
    Calls Tryz.prog 3 #[.string kind, .int .i64 day] w (fun e w' => e = .returned (.bool true) ∧ Ext w w') := by
  obtain ⟨⟨hR, hL⟩, hT⟩ := hE
  have HS := Lib.hid (short4_any kind w hk)
  have HR := Lib.hid hR
  have HL := Lib.hid hL
  have HT := Lib.hid hT
  have HLV := Lib.hid (fun X => (show Calls Tryz.prog 9 #[] X (fun e X' => e = .returned (.bool true) ∧ Ext X X') from Fa.lives_any X))
  clear hR hL hT hk
  go_enter Tryz.func3, Tryz.ntmps3
  go_wp2_with fail
  refine (HS.out).mono ?_
  rintro e w0 ⟨K, hK, rfl, rfl⟩
  clear HS
  have hx1 : Ext w (w.alloc (.cells #[.int .i64 0, .bool false, .int .i64 0, .string K, .int .i64 day, .int .i64 0, .int .i64 0, .int .i64 0] 26)) := (Ext.refl _).alloc _
  have hv1 : VX (w.alloc (.cells #[.int .i64 0, .bool false, .int .i64 0, .string K, .int .i64 day, .int .i64 0, .int .i64 0, .int .i64 0] 26)) w.heap.size (vOf K day) := heap_alloc_new _ _
  go_upto_region 3 with (fail)
  generalize w.alloc (.cells #[.int .i64 0, .bool false, .int .i64 0, .string K, .int .i64 day, .int .i64 0, .int .i64 0, .int .i64 0] 26) = w1 at *
  generalize w.heap.size = g at *
  have HX1 := Lib.hid hx1
  have HV1 := Lib.hid hv1
  obtain ⟨g0, g1, g2, g3, g4, g5, g6, g7, g8⟩ := hv1.cs
  simp only [vOf] at g1 g2 g3 g4 g5 g6 g7 g8
  have HA := Lib.hid (show Calls Tryz.prog 5 #[.slice none 0 0, .agg #[.int .i64 0, .bool false, .int .i64 0, .string K, .int .i64 day, .int .i64 0, .int .i64 0, .int .i64 0]] w1 (Fa.AppPost [] (vOf K day) w1) from
    Fa.pappend_any none 0 0 [] (vOf K day) w1 (by decide) ⟨rfl, fun h => absurd h (by decide)⟩ (Nat.le_trans hK (by decide)) (fun k h => absurd h (by omega)) rfl)
  have HKS := Lib.hid hK
  clear hx1 hv1
  obtain ⟨er, her⟩ : ∃ er, er = Fa.wrongOf [] (vOf K day) := ⟨_, rfl⟩
  have HER := Lib.hid her
  go_wp2_with fail
  refine (HA.out).mono ?_
  rintro e w2 ⟨hcase, hx2⟩
  have HX2 := Lib.hid (show Ext w1 w2 from hx2)
  obtain ⟨A2, n2, c2, rfl⟩ : ∃ A n c, e = .returned (.tuple #[.slice A n c, .int .i64 er]) := by
    rcases hcase with ⟨_, rfl⟩ | ⟨h0, A, c, rfl, _⟩
    · exact ⟨none, 0, 0, by rw [HER.out]⟩
    · exact ⟨A, _, c, by rw [HER.out, h0]⟩
  clear hcase hx2 g0 g1 g2 g3 g4 g5 g6 g7 g8 her HA
  have HTK := Lib.hid (tokens_any K w2 (by omega) (HR.out.ext (HX1.out.trans HX2.out)) (HL.out.ext (HX1.out.trans HX2.out)))
  go_wp2_with fail
  refine (HTK.out).mono ?_
  rintro e w3 ⟨A3, c3, rfl, hsl, hx3, _⟩
  have HSL := Lib.hid hsl
  have HX3 := Lib.hid ((HX1.out.trans HX2.out).trans hx3)
  have HV3 := Lib.hid (HV1.out.ext (HX2.out.trans hx3))
  clear hsl hx3 HTK
  obtain ⟨b, hb⟩ : ∃ b, b = Fa.wordB K := ⟨_, rfl⟩
  have HB := Lib.hid hb
  clear hb
  obtain ⟨LX, hLX⟩ : ∃ L, L = lexT K.data.toList := ⟨_, rfl⟩
  have HLX := Lib.hid hLX
  rw [← hLX] at HSL ⊢
  clear hLX
  go_upto_region 5 with (fail)
  go_cut [12] (fun s12 wx => s12 = .bool b ∧ wx = w3)
  case first =>
    by_cases he : LX.e = 0
    case neg =>
      have t1 : (LX.e == 0) = false := beq_eq_false_iff_ne.2 he
      have HF := Lib.hid (show b = false by
        rw [HB.out]
        cases hw : Fa.wordB K with
        | false => rfl
        | true => exact absurd (by rw [HLX.out, lex_word HKS.out hw]) he)
      clear he
      go_wp2_with fail
      go_meet
      case rel => exact ⟨by rw [HF.out], rfl⟩
    have t1 : (LX.e == 0) = true := by rw [beq_iff_eq]; exact he
    have HE0 := Lib.hid he
    clear he
    by_cases hn : LX.l.length = 2
    case neg =>
      have t2 : ((LX.l.length : Int) == 2) = false := by rw [beq_eq_false_iff_ne]; omega
      have HF := Lib.hid (show b = false by
        rw [HB.out]
        cases hw : Fa.wordB K with
        | false => rfl
        | true => exact absurd (by rw [HLX.out, lex_word HKS.out hw]; rfl) hn)
      clear hn
      go_wp2_with fail
      go_meet
      case rel => exact ⟨by rw [HF.out], rfl⟩
    obtain ⟨t, u, htu⟩ : ∃ t u, LX.l = [t, u] := by
      cases h1 : LX.l with
      | nil => rw [h1] at hn; simp at hn
      | cons t r =>
        cases r with
        | nil => rw [h1] at hn; simp at hn
        | cons u r =>
          cases r with
          | nil => exact ⟨t, u, rfl⟩
          | cons x r => rw [h1] at hn; simp at hn
    have HTU := Lib.hid htu
    have hsl3 : SL tcf 4 w3 A3 2 [t, u] := by have := HSL.out; rw [htu] at this; exact this
    obtain ⟨b9, off, rfl, hb9, hc⟩ := hsl3.2 (by decide)
    have k0 := hc 0 t rfl 0 _ rfl
    have k2 := hc 0 t rfl 2 _ rfl
    simp only [Nat.zero_mul, Nat.add_zero] at k0 k2
    obtain ⟨T, hT2⟩ : ∃ T, T = (⟨t.tx.toArray⟩ : ByteArray) := ⟨_, rfl⟩
    rw [← hT2] at k2
    have HTT := Lib.hid hT2
    have t2 : ((LX.l.length : Int) == 2) = true := by rw [hn]; rfl
    have tl : (0 : Int) < (LX.l.length : Int) := by rw [hn]; decide
    obtain ⟨kd, hkd⟩ : ∃ z, z = t.kd := ⟨_, rfl⟩
    rw [← hkd] at k0
    have HKD := Lib.hid hkd
    clear htu hsl3 hc hT2 hkd hn
    by_cases hk1 : kd = 1
    case neg =>
      have t3 : (kd == 1) = false := beq_eq_false_iff_ne.2 hk1
      have HF := Lib.hid (show b = false by
        rw [HB.out]
        cases hw : Fa.wordB K with
        | false => rfl
        | true =>
          have h9 := HTU.out
          rw [HLX.out, lex_word HKS.out hw] at h9
          injection h9 with h9 _
          rw [HKD.out, ← h9] at hk1
          exact absurd rfl hk1)
      clear hk1
      go_wp2_with fail
      go_meet
      case rel => exact ⟨by rw [HF.out], rfl⟩
    have t3 : (kd == 1) = true := by rw [beq_iff_eq]; exact hk1
    have HK1 := Lib.hid hk1
    clear hk1
    by_cases htx : t.tx = K.data.toList
    · have t4 : (T.toList == K.toList) = true := by rw [HTT.out, ByteArray.toList_eq, ByteArray.toList_eq, beq_iff_eq]; exact htx
      have HF := Lib.hid (show b = true by
        rw [HB.out]
        exact word_lex HKS.out (by rw [← HLX.out]; exact HE0.out) (by rw [← HLX.out]; exact HTU.out) (by rw [← HKD.out]; exact HK1.out) htx)
      clear htx
      go_wp2_with fail
      go_meet
      case rel => exact ⟨by rw [HF.out], rfl⟩
    · have t4 : (T.toList == K.toList) = false := by rw [HTT.out, ByteArray.toList_eq, ByteArray.toList_eq, beq_eq_false_iff_ne]; exact htx
      have HF := Lib.hid (show b = false by
        rw [HB.out]
        cases hw : Fa.wordB K with
        | false => rfl
        | true =>
          have h9 := HTU.out
          rw [HLX.out, lex_word HKS.out hw] at h9
          injection h9 with h9 _
          rw [← h9] at htx
          exact absurd rfl htx)
      clear htx
      go_wp2_with fail
      go_meet
      case rel => exact ⟨by rw [HF.out], rfl⟩
  case rest =>
  obtain ⟨rfl, rfl⟩ := hcut
  clear HSL
  have HWV := Lib.hid (wrong_v K day)
  cases b with
  | false =>
    have HF := Lib.hid (show er = 5 by rw [HER.out, HWV.out, if_neg (by rw [← HB.out]; simp)])
    have t5 : (er == 5) = true := by rw [beq_iff_eq]; exact HF.out
    go_wp2_with (first | (go_at_call 9; refine (HLV.out _).mono ?_; rintro e w9 ⟨rfl, hx9⟩))
    go_ret
    exact ⟨rfl, HX3.out.trans hx9⟩
  | true =>
    by_cases hv : 0 ≤ day ∧ day ≤ 3652058
    case neg =>
      have HF := Lib.hid (show er = 5 by rw [HER.out, HWV.out, if_neg (fun h => hv h.2)])
      have t5 : (er == 5) = true := by rw [beq_iff_eq]; exact HF.out
      have HPB := Lib.hid (fun X => print_bad day X (by omega))
      clear hv
      go_wp2_with (first | (go_at_call 7; refine (HPB.out _).mono ?_; rintro e w8 ⟨rfl, hx8⟩) | (go_at_call 9; refine (HLV.out _).mono ?_; rintro e w9 ⟨rfl, hx9⟩))
      go_ret
      exact ⟨rfl, (HX3.out.trans hx8).trans hx9⟩
    have HF := Lib.hid (show er = 0 by rw [HER.out, HWV.out, if_pos ⟨HB.out.symm, hv⟩])
    obtain rfl : er = 0 := HF.out
    obtain ⟨d, rfl⟩ := Int.eq_ofNat_of_zero_le hv.1
    have hd2 : d ≤ 3652058 := by omega
    obtain ⟨P, hP⟩ : ∃ P, P = (⟨(prL d).toArray⟩ : ByteArray) := ⟨_, rfl⟩
    have HPR := Lib.hid (fun X (hX : Ext w X) => (show Calls Tryz.prog 7 #[.int .i64 (d : Nat)] X (fun e X' => e = .returned (.string P) ∧ Ext X X') from hP ▸ print_any d X hd2 (HT.out.ext hX)))
    have tP : P.toList.isEmpty = false := by
      rw [hP, ByteArray.toList_eq]
      have := prL_size hd2
      cases hh : prL d with
      | nil => rw [hh] at this; simp at this
      | cons a l => rfl
    have tP2 : (P.toList == ([] : List UInt8)) = false := by
      rw [beq_eq_false_iff_ne]; intro e; rw [e] at tP; cases tP
    have tP3 : (!P.toList.isEmpty) = true := by rw [tP]; rfl
    have HCV := Lib.hid (check_v (K := K) (day := (d : Int)) HER.out.symm)
    clear hv hP HF
    go_upto_region 7 with (first | (go_at_call 7; refine (HPR.out _ HX3.out).mono ?_; rintro e w4 ⟨rfl, hx4⟩))
    have hv4 := HV3.out.ext hx4
    obtain ⟨g0, g1, g2, g3, g4, g5, g6, g7, g8⟩ := hv4.cs
    simp only [vOf] at g1 g2 g3 g4 g5 g6 g7 g8
    have HX4 := Lib.hid (HX3.out.trans hx4)
    have hx5 : Ext w4 (w4.alloc (.cells #[.int .i64 0, .bool false, .int .i64 0, .string K, .int .i64 d, .int .i64 0, .int .i64 0, .int .i64 0] 26)) := (Ext.refl _).alloc _
    have HCK := Lib.hid (show Calls Tryz.prog 8 #[.slice (some ⟨w4.heap.size, 0, none⟩) 1 1] (w4.alloc (.cells #[.int .i64 0, .bool false, .int .i64 0, .string K, .int .i64 d, .int .i64 0, .int .i64 0, .int .i64 0] 26)) (fun e X' => e = .returned (.int .i64 0) ∧ Ext (w4.alloc (.cells #[.int .i64 0, .bool false, .int .i64 0, .string K, .int .i64 d, .int .i64 0, .int .i64 0, .int .i64 0] 26)) X') from by
      have h9 := Fa.check_any (some ⟨w4.heap.size, 0, none⟩) 1 1 [vOf K d] (w4.alloc (.cells #[.int .i64 0, .bool false, .int .i64 0, .string K, .int .i64 d, .int .i64 0, .int .i64 0, .int .i64 0] 26)) (by decide) ((Fa.SV.one w4 (vOf K d) 26).more (by simp)) (fun k hk => by
        obtain rfl : k = 0 := by omega
        exact Nat.le_trans HKS.out (by decide))
      rw [HCV.out] at h9; exact h9)
    have HX5 := Lib.hid (HX4.out.trans hx5)
    clear hv4 hx5 hx4
    go_wp2_with (first | (go_at_call 8; refine (HCK.out).mono ?_; rintro e w8 ⟨rfl, hx8⟩) | (go_at_call 9; refine (HLV.out _).mono ?_; rintro e w9 ⟨rfl, hx9⟩))
    go_ret
    exact ⟨rfl, (HX5.out.trans hx8).trans hx9⟩
end Go.Proofs.YtngjghblpbdciaaGreatDoor
