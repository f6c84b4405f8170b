/- The printed text of a tree has the tree's tokens. -/
import Derived.Test.YtnpenepdechkjaaGreatDoorQn
namespace Go.Proofs.YtnpenepdechkjaaGreatDoor
open Go

def eX (s : List UInt8) : Int := (lexW 0 s).e
def tX (s : List UInt8) : List (Int × List UInt8 × Int) := (lexW 0 s).l.map tri
theorem lexk (k : Nat) (s : List UInt8) : (lexW k s).e = eX s ∧ (lexW k s).l.map tri = tX s := lex_shift s.length s (Nat.le_refl _) k 0
/-- x is read as the tokens ts, whatever follows that ends a token. -/
def Lx (x : List UInt8) (ts : List Tk) : Prop := ∀ u, SepHead u → eX (x ++ u) = eX u ∧ (eX u = 0 → tX (x ++ u) = ts.map tri ++ tX u)
/-- x is read as the tokens ts, whatever follows. -/
def LxA (x : List UInt8) (ts : List Tk) : Prop := ∀ u, eX (x ++ u) = eX u ∧ (eX u = 0 → tX (x ++ u) = ts.map tri ++ tX u)
theorem LxA.lx {x : List UInt8} {ts : List Tk} (h : LxA x ts) : Lx x ts := fun u _ => h u
theorem LxA.nil : LxA [] [] := fun _ => ⟨rfl, fun _ => rfl⟩
theorem tok_lex {x u : List UInt8} {kd v : Int} (h : tok1 (x ++ u) = .ok kd x.length v) : eX (x ++ u) = eX u ∧ (eX u = 0 → tX (x ++ u) = [(kd, x, v)] ++ tX u) := by
  have hsk := skip_tok h
  have hn := (tok1_len h).1
  have hne : x ++ u ≠ [] := fun e => by
    have := congrArg List.length e
    rw [List.length_append, List.length_nil] at this
    omega
  have e : lexW 0 (x ++ u) = (lexW x.length u).put ⟨kd, (0 : Nat), x, v⟩ := by
    rw [lex_ok (k := 0) (by rw [hsk]; exact hne) (by rw [hsk]; exact h) hn, hsk, Nat.sub_self, List.drop_left, List.take_left]
    simp
  obtain ⟨g1, g2⟩ := lexk x.length u
  refine ⟨?_, fun h0 => ?_⟩
  · rw [eX, e, put_e, g1]
  · rw [tX, e, put_ok (by rw [g1]; exact h0), List.map_cons, g2]; rfl
theorem lx_tok {t : Tk} (h : TokOK t) : Lx t.tx [t] := fun u hu => by
  obtain ⟨h1, _, h3⟩ := h
  exact tok_lex (kd := t.kd) (v := t.nm) (by rw [tok1_app h1 hu]; exact h3)
theorem lx_sym {c : UInt8} (hc : c = 40 ∨ c = 41 ∨ c = 44 ∨ c = 45 ∨ c = 59 ∨ c = 43 ∨ c = 42 ∨ c = 123 ∨ c = 125) : LxA [c] [sy [c]] := fun u => by
  refine tok_lex (x := [c]) (kd := 4) (v := 0) ?_
  have h1 : symN (c :: u) = 1 := by
    rw [symN_cons, if_neg, if_pos]
    · rcases hc with rfl | rfl | rfl | rfl | rfl | rfl | rfl | rfl | rfl <;> decide
    · rintro ⟨h, _⟩
      rcases hc with rfl | rfl | rfl | rfl | rfl | rfl | rfl | rfl | rfl <;> revert h <;> decide
  rw [List.singleton_append, tok1_cons, if_neg, if_neg, if_neg, h1, if_neg (by decide)]
  · rfl
  · rcases hc with rfl | rfl | rfl | rfl | rfl | rfl | rfl | rfl | rfl <;> decide
  · rcases hc with rfl | rfl | rfl | rfl | rfl | rfl | rfl | rfl | rfl <;> decide
  · rcases hc with rfl | rfl | rfl | rfl | rfl | rfl | rfl | rfl | rfl <;> decide
theorem lx_blank {c : UInt8} (hc : c = 32 ∨ c = 10) : LxA [c] [] := fun u => by
  have hs : skipB false ([c] ++ u) = skipB false u := by
    rcases hc with rfl | rfl
    · exact gap_blank.1 u
    · exact skip10 false u
  have := skipB_gap (g := [c]) hs 0
  obtain ⟨g1, g2⟩ := lexk (0 + [c].length) u
  refine ⟨?_, fun _ => ?_⟩
  · rw [eX, this, g1]
  · rw [tX, this, g2]; rfl
theorem LxA.cat {x y : List UInt8} {ts us : List Tk} (h : LxA x ts) (k : Lx y us) : Lx (x ++ y) (ts ++ us) := fun u hu => by
  obtain ⟨a1, a2⟩ := k u hu
  obtain ⟨b1, b2⟩ := h (y ++ u)
  rw [List.append_assoc, List.map_append, List.append_assoc]
  exact ⟨b1.trans a1, fun h0 => by rw [b2 (a1.trans h0), a2 h0]⟩
theorem LxA.cons {c : UInt8} {y : List UInt8} {ts us : List Tk} (h : LxA [c] ts) (k : Lx y us) : Lx (c :: y) (ts ++ us) := h.cat k
theorem Lx.cat {x y : List UInt8} {c : UInt8} {ts us : List Tk} (h : Lx x ts) (hc : sepc c = true) (k : Lx (c :: y) us) : Lx (x ++ c :: y) (ts ++ us) := fun u hu => by
  obtain ⟨a1, a2⟩ := k u hu
  obtain ⟨b1, b2⟩ := h (c :: y ++ u) (fun d hd => by
    obtain rfl : c = d := by simpa using hd
    exact hc)
  rw [List.append_assoc, List.map_append, List.append_assoc]
  exact ⟨b1.trans a1, fun h0 => by rw [b2 (a1.trans h0), a2 h0]⟩
theorem Lx.blank {y : List UInt8} {us : List Tk} (k : Lx y us) : Lx (32 :: y) us := LxA.cons (lx_blank (.inl rfl)) k
theorem Lx.sp {x y : List UInt8} {ts us : List Tk} (h : Lx x ts) (k : Lx y us) : Lx (x ++ 32 :: y) (ts ++ us) := h.cat (by decide) k.blank
theorem wd_ok {s : List UInt8} (h : tok1 s = .ok 1 s.length 0) (hs : s ≠ []) : TokOK (wd s) := ⟨hs, (by decide : (1 : Int) ≠ 0), h⟩
theorem words_ok : ∀ s ∈ reserved, tok1 s = .ok 1 s.length 0 ∧ s ≠ [] := by
  intro s hs
  simp only [reserved, words, units, fields, functions, List.cons_append, List.nil_append, List.mem_cons, List.not_mem_nil, or_false] at hs
  rcases hs with rfl | rfl | rfl | rfl | rfl | rfl | rfl | rfl | rfl | rfl | rfl | rfl | rfl | rfl | rfl | rfl | rfl | rfl | rfl | rfl | rfl | rfl | rfl | rfl | rfl | rfl | rfl | rfl | rfl | rfl <;> exact ⟨rfl, by decide⟩
theorem lx_word {s : List UInt8} (h : s ∈ reserved) : Lx s [wd s] := lx_tok (t := wd s) (wd_ok (words_ok s h).1 (words_ok s h).2)
theorem lx_op {s : List UInt8} (h : 1 ≤ lvOf s) : Lx s [tkO s] := by
  have hs : s = wOr ∨ s = wAnd ∨ s ∈ cmpOps ∨ s = wPlus ∨ s = wMinus ∨ s = wStar := by
    unfold lvOf at h
    split at h
    · exact .inl (by assumption)
    split at h
    · exact .inr (.inl (by assumption))
    split at h
    · exact .inr (.inr (.inl (by assumption)))
    split at h
    · rename_i h1
      rcases h1 with h1 | h1
      · exact .inr (.inr (.inr (.inl h1)))
      · exact .inr (.inr (.inr (.inr (.inl h1))))
    split at h
    · exact .inr (.inr (.inr (.inr (.inr (by assumption)))))
    · omega
  refine lx_tok (t := tkO s) ?_
  simp only [cmpOps, List.mem_cons, List.not_mem_nil, or_false] at hs
  rcases hs with rfl | rfl | (rfl | rfl | rfl | rfl | rfl | rfl) | rfl | rfl | rfl <;> exact ⟨by decide, by decide, rfl⟩
theorem lx_num {n : Int} (h : 0 ≤ n ∧ n ≤ 2147483647) : Lx (Lib.itoa n) [⟨2, 0, Lib.itoa n, n⟩] := by
  obtain ⟨m, rfl⟩ := Int.eq_ofNat_of_zero_le h.1
  rw [itoa_nat]
  refine lx_tok (t := ⟨2, 0, Lib.decDigits m, (m : Int)⟩) ⟨(dec_all m m (Nat.le_refl _)).2.2.1, (by decide : (2 : Int) ≠ 0), num_tok (by omega)⟩
theorem lx_day {n : Int} (h : 0 ≤ n ∧ n ≤ 3652058) : Lx (64 :: prL n.toNat) [⟨3, 0, 64 :: prL n.toNat, n⟩] := by
  obtain ⟨m, rfl⟩ := Int.eq_ofNat_of_zero_le h.1
  rw [show ((m : Int)).toNat = m from rfl]
  obtain ⟨g1, g2⟩ := ofD_ok (d := m) (by omega)
  have := day_tok g1
  rw [g2] at this
  exact lx_tok (t := ⟨3, 0, 64 :: prL m, (m : Int)⟩) ⟨by simp, (by decide : (3 : Int) ≠ 0), this⟩
theorem lx_opL {l lv : Nat} {x : List UInt8} {ts : List Tk} (h : Lx x ts) : Lx (opL l lv x) (opK l lv ts) := by
  unfold opL opK
  split
  · have := LxA.cons (c := 40) (lx_sym (by decide)) (h.cat (c := 41) (y := []) (by decide) (lx_sym (c := 41) (by decide)).lx)
    exact this
  · exact h
theorem lx_bin {a b s : List UInt8} {ta tb ts : List Tk} (ha : Lx a ta) (hs : Lx s ts) (hb : Lx b tb) : Lx (a ++ [32] ++ s ++ [32] ++ b) (ta ++ (ts ++ tb)) := by
  have := ha.sp (hs.sp hb)
  simpa using this
theorem res_of {s : List UInt8} (h : s ∈ units ∨ s ∈ fields ∨ s ∈ functions) : s ∈ reserved := by
  unfold reserved
  rcases h with h | h | h
  · exact List.mem_append_right _ (List.mem_append_left _ h)
  · exact List.mem_append_right _ (List.mem_append_right _ (List.mem_append_left _ h))
  · exact List.mem_append_right _ (List.mem_append_right _ (List.mem_append_right _ h))
theorem shw_aft {k : Int} (n : Int) (s : List UInt8) (a b : Tr) (hk : k = 7 ∨ k = 8) : showT (.nd k n s [a, b]) = opL (lvT a) 5 (showT a) ++ [32] ++ (if k = 8 then wMinus else wPlus) ++ [32] ++ (opL (lvT b) 6 (showT b) ++ [32] ++ s) := by
  rcases hk with rfl | rfl
  · have h5 : lvN 7 s = 5 := lvN78 s (.inl rfl)
    simp [showT, showTs, showN, h5, leftL, wPlus]
  · have h5 : lvN 8 s = 5 := lvN78 s (.inr rfl)
    simp [showT, showTs, showN, h5, leftL, wMinus]
/-- The law. -/
theorem lx_show {t : Tr} (h : GT t) : Lx (showT t) (tkT t) := by
  induction h with
  | num n h => rw [tk_num, show showT (.nd 1 n [] []) = Lib.itoa n by simp [showT, showN]]; exact lx_num h
  | bool n h =>
    rw [tk_bool, show showT (.nd 2 n [] []) = if n = 1 then wTrue else wFalse by simp [showT, showN]]
    split <;> exact lx_word (by decide)
  | day n h => rw [tk_day, show showT (.nd 3 n [] []) = 64 :: prL n.toNat by simp [showT, showN]]; exact lx_day h
  | field s h => rw [tk_field, show showT (.nd 4 0 s []) = s by simp [showT, showN]]; exact lx_word (res_of (.inr (.inl h)))
  | una s a h ha iha =>
    rw [tk_una, lvN5]
    by_cases hs : s = wNot
    · have e : showT (.nd 5 0 s [a]) = wNot ++ 32 :: opL (lvT a) 3 (showT a) := by simp [showT, showTs, showN, hs, wNot]
      rw [e, if_pos hs, if_pos hs]
      exact (lx_word (s := wNot) (by decide)).sp (lx_opL iha)
    · have e : showT (.nd 5 0 s [a]) = 45 :: opL (lvT a) 7 (showT a) := by simp [showT, showTs, showN, hs]
      rw [e, if_neg hs, if_neg hs]
      exact LxA.cons (lx_sym (by decide)) (lx_opL iha)
  | bin s a b h ha hb iha ihb =>
    rw [tk_bin]
    have e : showT (.nd 6 0 s [a, b]) = opL (lvT a) (leftL (lvOf s)) (showT a) ++ [32] ++ s ++ [32] ++ opL (lvT b) (lvOf s + 1) (showT b) := by simp [showT, showTs, showN, lvN6]
    rw [e]
    exact lx_bin (lx_opL iha) (lx_op h) (lx_opL ihb)
  | aft k s a b hk h ha hb iha ihb =>
    rw [tk_aft _ _ _ _ hk, shw_aft _ _ _ _ hk]
    have hop : Lx (if k = 8 then wMinus else wPlus) [sy (if k = 8 then wMinus else wPlus)] := by
      split
      · exact (lx_sym (c := 45) (by decide)).lx
      · exact (lx_sym (c := 43) (by decide)).lx
    have hb : Lx (opL (lvT b) 6 (showT b) ++ [32] ++ s) (opK (lvT b) 6 (tkT b) ++ [wd s]) := by
      have := (lx_opL (l := lvT b) (lv := 6) ihb).sp (lx_word (res_of (.inl h)))
      simpa using this
    exact lx_bin (lx_opL iha) hop hb
  | ite a b c ha hb hc iha ihb ihc =>
    rw [tk_ite]
    have e : showT (.nd 9 0 [] [a, b, c]) = wIf ++ 32 :: (showT a ++ 32 :: (wThen ++ 32 :: (showT b ++ 32 :: (wElse ++ 32 :: (showT c ++ 32 :: wEnd))))) := by simp [showT, showTs, showN, wIf, wThen, wElse, wEnd]
    rw [e]
    exact (lx_word (s := wIf) (by decide)).sp (iha.sp ((lx_word (s := wThen) (by decide)).sp (ihb.sp ((lx_word (s := wElse) (by decide)).sp (ihc.sp (lx_word (s := wEnd) (by decide)))))))
  | call1 s a h hs ha iha =>
    rw [tk_call1]
    have e : showT (.nd 10 0 s [a]) = s ++ 40 :: (showT a ++ 41 :: []) := by simp [showT, showTs, showN, Lib.join_cons, Lib.joinTail]
    rw [e]
    exact (lx_word (res_of (.inr (.inr h)))).cat (by decide) (LxA.cons (lx_sym (c := 40) (by decide)) (iha.cat (by decide) (lx_sym (c := 41) (by decide)).lx))
  | call2 s a b h hs ha hb iha ihb =>
    rw [tk_call2]
    have e : showT (.nd 10 0 s [a, b]) = s ++ 40 :: (showT a ++ 44 :: 32 :: (showT b ++ 41 :: [])) := by simp [showT, showTs, showN, Lib.join_cons, Lib.joinTail]
    rw [e]
    exact (lx_word (res_of (.inr (.inr h)))).cat (by decide) (LxA.cons (lx_sym (c := 40) (by decide)) (iha.cat (by decide) (LxA.cons (lx_sym (c := 44) (by decide)) (ihb.cat (by decide) (lx_sym (c := 41) (by decide)).lx).blank)))
end Go.Proofs.YtnpenepdechkjaaGreatDoor
