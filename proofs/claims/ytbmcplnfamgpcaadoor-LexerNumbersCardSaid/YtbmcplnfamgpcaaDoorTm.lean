/- Lists of tokens in memory; the step of the loop over a source. -/
import Derived.Test.YtbmcplnfamgpcaaDoorRow
import Derived.Test.YtbmcplnfamgpcaaDoorLy
import Derived.Test.YtbmcplnfamgpcaaDoorPlain3
namespace Go.Proofs.YtbmcplnfamgpcaaDoor
open Go Go.RowKit

theorem info36 : (Tryd.prog.info? 36).map (fun i => (i.zero, i.size, i.bytes)) = some (some (.agg #[.int .i64 0, .int .i64 0, .string ⟨#[]⟩, .int .i64 0]), 4, 40) := by kernel_rfl
def tcf (t : Tk) : List Value := [.int .i64 t.kd, .int .i64 t.at_, .string ⟨t.tx.toArray⟩, .int .i64 t.nm]
theorem tcf_len (t : Tk) : (tcf t).length = 4 := rfl
theorem tcf_one (t : Tk) : ∀ u ∈ tcf t, u.oneCell' = true := fun u hu => by
  simp only [tcf, List.mem_cons, List.not_mem_nil, or_false] at hu
  rcases hu with rfl | rfl | rfl | rfl <;> rfl
theorem ap23 {w : World} {base : Nat} {v : Value} {l : List Tk} (h : OL tcf 4 w base 36 v l) {A : Option Addr} {m : Nat} {l' : List Tk} (hs : SL tcf 4 w A m l') (c : Nat) (hm : l.length + m ≤ 100000000) (hbase : base ≤ w.heap.size) :
    ∃ A' c' w', (Builtin.append_ #[23, 23] 23 #[v, .slice A m c]).run Tryd.prog w = .ok (.slice A' (l.length + m) c') w' ∧ OL tcf 4 w' base 36 (.slice A' (l.length + m) c') (l ++ l') ∧ (∀ B, B ≤ base → Below B w w') ∧
      (∀ k, k < w.heap.size → (∀ a, v ≠ .slice (some ⟨k, 0, none⟩) l.length a) → w'.heap[k]? = w.heap[k]?) :=
  OL.append tcf_len tcf_one (by omega) Tryd.underlying23 info36 rfl (by omega) h hs c hm hbase
theorem ap23_one (X : World) {base : Nat} {v : Value} {l : List Tk} (ho : OL tcf 4 X base 36 v l) (k a n : Int) (S : ByteArray) (x : List UInt8) (hS : S.data.toList = x) (b : Nat) (hb : b = X.heap.size) (hm : l.length ≤ 10000000) (hbase : base ≤ X.heap.size) :
    ∃ A' c' w', (Builtin.append_ #[23, 23] 23 #[v, .slice (some ⟨b, 0, none⟩) 1 1]).run Tryd.prog (X.alloc (.cells #[.int .i64 k, .int .i64 a, .string S, .int .i64 n] 36)) = .ok (.slice A' (l.length + 1) c') w' ∧
      OL tcf 4 w' base 36 (.slice A' (l.length + 1) c') (l ++ [⟨k, a, x, n⟩]) ∧ Below base X w' ∧ (∀ k, k < X.heap.size → (∀ a, v ≠ .slice (some ⟨k, 0, none⟩) l.length a) → w'.heap[k]? = X.heap[k]?) := by
  subst hb; subst hS
  obtain ⟨A', c', w', h1, h2, h3, h4⟩ := ap23 (ho.ext ((Ext.refl X).alloc _)) (SL.one (cf := tcf) (sz := 4) X ⟨k, a, S.data.toList, n⟩ #[.int .i64 k, .int .i64 a, .string S, .int .i64 n] rfl 36) 1 (by omega) (by simp; omega)
  refine ⟨A', c', w', h1, h2, Below.trans (Below.mono ((Ext.refl X).alloc _) hbase) (h3 base (Nat.le_refl _)), fun k hk hne => ?_⟩
  rw [h4 k (by simp; omega) hne]
  exact ((Ext.refl X).alloc _).block k hk
/-- What lexer.Tokens computes. -/
def lexT (s : List UInt8) : LexR := if 4000 < s.length then ⟨[], 4000, 2⟩ else lexW 0 s
def TokPost (W : World) (r : LexR) (e : Ending) (W' : World) : Prop := ∃ A c, e = .returned (.tuple #[.slice A r.l.length c, .int .i64 r.off, .int .i64 r.e]) ∧ SL tcf 4 W' A r.l.length r.l ∧ Ext W W' ∧ r.l.length ≤ c
/-! ### Steps -/
theorem skipB_true : ∀ l : List UInt8, skipB true l = skipB false (l.dropWhile nlB)
  | [] => rfl
  | c :: r => by
    by_cases h : c = 10
    · have e : nlB c = false := by simp [nlB, h]
      rw [List.dropWhile_cons_of_neg (by rw [e]; decide), skipB, skipB, if_pos h, if_pos h]
    · have e : nlB c = true := by simp [nlB, h]
      rw [List.dropWhile_cons_of_pos e, ← skipB_true r, skipB, if_neg h]
      by_cases h2 : c = 35
      · rw [if_pos h2]
      · rw [if_neg h2]; simp
theorem drop_twn (p : UInt8 → Bool) (l : List UInt8) : l.drop (twn p l) = l.dropWhile p := by
  induction l with
  | nil => rfl
  | cons c r ih =>
    cases h : p c with
    | true => rw [twn_go h, List.dropWhile_cons_of_pos h, Nat.add_comm, List.drop_succ_cons, ih]
    | false => rw [twn_stop h, List.dropWhile_cons_of_neg (by rw [h]; decide), List.drop_zero]
theorem lex_blank {a : Nat} {c : UInt8} {r : List UInt8} (h : blk c = true) : lexW a (c :: r) = lexW (a + 1) r := by
  apply lex_skip
  · rw [skipB]
    by_cases h1 : c = 10
    · rw [if_pos h1]
    · rw [if_neg h1, if_neg (by rintro rfl; revert h; decide), h]; rfl
  · rw [List.length_cons]; omega
theorem lex_comment {a : Nat} {c : UInt8} {r : List UInt8} (h : c = 35) : lexW a (c :: r) = lexW (a + twn nlB (c :: r)) ((c :: r).drop (twn nlB (c :: r))) := by
  have e : nlB c = true := by rw [h]; decide
  apply lex_skip
  · rw [drop_twn, List.dropWhile_cons_of_pos e, ← skipB_true, skipB, if_neg (by rw [h]; decide), if_pos h]
  · have := (List.takeWhile_sublist nlB (l := c :: r)).length_le
    rw [List.length_drop]
    have h2 : twn nlB (c :: r) ≤ (c :: r).length := this
    omega
theorem skip_none {c : UInt8} {r : List UInt8} (h : blk c = false) (h2 : c ≠ 35) : skipB false (c :: r) = c :: r := by
  have h3 : c ≠ 10 := by rintro rfl; revert h; decide
  rw [skipB, if_neg h3, if_neg h2, h]; rfl
theorem lex_tok_err {a : Nat} {c : UInt8} {r : List UInt8} {e : Int} (h : blk c = false) (h2 : c ≠ 35) (ht : tok1 (c :: r) = .err e) : lexW a (c :: r) = ⟨[], (a : Nat), e⟩ := by
  have hs := skip_none (r := r) h h2
  have := lex_err (k := a) (s := c :: r) (e := e) (by rw [hs]; simp) (by rw [hs]; exact ht)
  rw [this, hs, Nat.sub_self, Nat.add_zero]
theorem lex_tok_ok {a n : Nat} {c : UInt8} {r : List UInt8} {k v : Int} (h : blk c = false) (h2 : c ≠ 35) (ht : tok1 (c :: r) = .ok k n v) : lexW a (c :: r) = (lexW (a + n) ((c :: r).drop n)).put ⟨k, (a : Nat), (c :: r).take n, v⟩ := by
  have hs := skip_none (r := r) h h2
  have := lex_ok (k := a) (s := c :: r) (kd := k) (n := n) (v := v) (by rw [hs]; simp) (by rw [hs]; exact ht) (tok1_len ht).1
  rw [this, hs, Nat.sub_self, Nat.add_zero]
end Go.Proofs.YtbmcplnfamgpcaaDoor
