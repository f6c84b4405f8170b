/- The contract of lexer's 'day': the walk. -/
import Derived.Test.YtnpenepdechkjaaGreatDoorMa
import Derived.Lib.IndexMore
import Derived.BigQuiet
import Derived.StillTailTactics
import Derived.OrdersHeld
import Derived.RegionTactic
import Derived.Deep.RegionLaw
import Derived.Deep.DeepCutAuto
namespace Go.Proofs.YtnpenepdechkjaaGreatDoor
open Go Go.RowKit

def FitTo (l : List UInt8) (i : Nat) : Prop := ∀ (j : Nat) (c f : UInt8), j < i → l[j]? = some c → formL[j]? = some f → fit f c = true
theorem fit_step {l : List UInt8} {i : Nat} {c f : UInt8} (h : FitTo l i) (hc : l[i]? = some c) (hf : formL[i]? = some f) (hk : fit f c = true) : FitTo l (i + 1) := by
  intro j c' f' hj h1 h2
  by_cases e : j = i
  · subst e; rw [hc] at h1; rw [hf] at h2; injection h1 with h1; injection h2 with h2; subst h1; subst h2; exact hk
  · exact h j c' f' (by omega) h1 h2
theorem fit_bad {l : List UInt8} {i : Nat} {c f : UInt8} (h0 : l.head? = some 64) (hl : 11 ≤ l.length) (hc : l[i]? = some c) (hf : formL[i]? = some f) (hk : fit f c = false) : dayT l = .err 20 := by
  rw [dayT, if_neg]
  intro hd
  have := (dated_fit h0 hl).1 hd i c f hc hf
  rw [hk] at this; cases this
theorem fit_all {l : List UInt8} (h0 : l.head? = some 64) (hl : 11 ≤ l.length) (h : FitTo l 11) : dated l = true :=
  (dated_fit h0 hl).2 fun j c f hc hf => h j c f (by
    rcases Nat.lt_or_ge j 11 with h | h
    · exact h
    · have : formL[j]? = none := List.getElem?_eq_none h
      rw [this] at hf; cases hf) hc hf
theorem form_at : ∀ i, i < 11 → ∃ f, formL[i]? = some f ∧ f.toNat < 128 ∧ ∀ h : i < (⟨#[64, 100, 100, 100, 100, 45, 100, 100, 45, 100, 100]⟩ : ByteArray).size, (⟨#[64, 100, 100, 100, 100, 45, 100, 100, 45, 100, 100]⟩ : ByteArray)[i]'h = f := by
  intro i hi
  rcases (by omega : i = 0 ∨ i = 1 ∨ i = 2 ∨ i = 3 ∨ i = 4 ∨ i = 5 ∨ i = 6 ∨ i = 7 ∨ i = 8 ∨ i = 9 ∨ i = 10) with rfl | rfl | rfl | rfl | rfl | rfl | rfl | rfl | rfl | rfl | rfl <;>
    exact ⟨_, rfl, by decide, fun _ => rfl⟩
theorem digI_dig (c : UInt8) : digI (c.toNat : Int) = dig c := by
  rw [digI, dig]; congr 1 <;> (apply decide_eq_decide.2; omega)
def FW (w : World) (i : Nat) : World := (w.alloc (.cells #[.int .i64 0, .int .i64 0, .string ⟨#[]⟩, .int .i64 0] 46)).alloc (.stringIter ⟨#[64, 100, 100, 100, 100, 45, 100, 100, 45, 100, 100]⟩ i)
def DRel (s : ByteArray) (w w' : World) : Prop := ∃ i, i ≤ 11 ∧ FitTo s.data.toList i ∧ w' = FW w i
theorem low_get (s : ByteArray) (i : Nat) (h : i < s.size) : s.data.toList[i]? = some (s[i]'h) := by
  have h' : i < s.data.toList.length := by rw [list_size]; exact h
  rw [List.getElem?_eq_getElem h']; rfl
set_option maxHeartbeats 4000000 in
set_option maxRecDepth 100000 in
theorem lday_any (s : ByteArray) (w : World) (h0 : s.data.toList.head? = some 64) (hs : s.size ≤ 281474976710656) (hL : EnvL w) : Calls Tryz.prog 70 #[.string s] w (TPost (dayT s.data.toList) s w) := by
  by_cases h11 : s.size < 11
  · have hT : dayT s.data.toList = .err 20 := by
      rw [dayT, if_neg]
      intro hd
      simp only [dated, Bool.and_eq_true, decide_eq_true_eq] at hd
      have := hd.1; rw [list_size] at this; omega
    have HT := Lib.hid hT
    have h11' : (s.size : Int) < 11 := by omega
    clear hT
    go_enter Tryz.func70, Tryz.ntmps70
    go_wp2
    refine bodyPost_ret (v := .tuple #[.agg #[.int .i64 0, .int .i64 0, .string ⟨#[]⟩, .int .i64 0], .int .i64 20]) (by simp [results, Tryz.results70, go_sem, *]) rfl ?_
    exact tpost_err HT.out rfl ((Ext.refl w).alloc _)
  · have h11' : ¬ (s.size : Int) < 11 := by omega
    have hl : 11 ≤ s.data.toList.length := by rw [list_size]; omega
    have HL := Lib.hid hL
    have HH := Lib.hid h0
    have HLN := Lib.hid hl
    clear h0 hl hL
    go_enter Tryz.func70, Tryz.ntmps70
    go_wp2
    go_loopw [] (fun w' => DRel s w w') (fun w' => 11 - w'.iterPos (w.heap.size + 1))
    case atStart => exact ⟨0, by omega, fun j c f h => absurd h (by omega), rfl⟩
    case round =>
      obtain ⟨i, hi, hfit, rfl⟩ := hrel
      have HF := Lib.hid hfit
      clear hfit
      by_cases hi11 : i < 11
      · obtain ⟨f, hf, hf128, hfi⟩ := form_at i hi11
        have hisz : i < (⟨#[64, 100, 100, 100, 100, 45, 100, 100, 45, 100, 100]⟩ : ByteArray).size := hi11
        have hnx := fun ty => next_any (w.alloc (.cells #[.int .i64 0, .int .i64 0, .string ⟨#[]⟩, .int .i64 0] 46)) (w.heap.size + 1) (by simp) ⟨#[64, 100, 100, 100, 100, 45, 100, 100, 45, 100, 100]⟩ i ty hisz
        have hdec := decode_ascii ⟨#[64, 100, 100, 100, 100, 45, 100, 100, 45, 100, 100]⟩ i hisz (by rw [hfi hisz]; exact hf128)
        rw [hfi hisz] at hdec
        simp only [hdec] at hnx
        have hsi : i < s.size := by omega
        have hci := low_get s i hsi
        have HD := Lib.hid (fun X => digit_any ((s[i]'hsi).toNat : Int) X)
        have hme : 11 - (FW w (i + 1)).iterPos (w.heap.size + 1) < 11 - (FW w i).iterPos (w.heap.size + 1) := by
          unfold FW; rw [iterPos_at _ _ (by simp), iterPos_at _ _ (by simp)]; omega
        have HM := Lib.hid hme
        have HCI := Lib.hid hci
        have HFF := Lib.hid hf
        clear hdec hfi hme hci hf
        rw [digI_dig] at HD
        have hwr : wrap32 ((s[i]'hsi).toNat : Int) = ((s[i]'hsi).toNat : Int) := by unfold wrap32; (have := (s[i]'hsi).toNat_lt; omega)
        by_cases hf100 : f = 100
        · have g1 : ((f.toNat : Int) == 100) = true := by rw [hf100]; rfl
          cases hdg : dig (s[i]'hsi) with
          | true =>
            rw [hdg] at HD
            have FIN := Lib.hid (show DRel s w (FW w (i + 1)) from ⟨i + 1, by omega, fit_step HF.out HCI.out HFF.out (by rw [fit, if_pos hf100]; exact hdg), rfl⟩)
            clear HF HCI HFF HLN HH
            unfold FW
            go_wp2_with (first | (go_at_call 68; refine (HD.out _).mono ?_; rintro e w1 ⟨rfl, rfl⟩))
            exact ⟨FIN.out, HM.out⟩
          | false =>
            rw [hdg] at HD
            have HT := Lib.hid (fit_bad HH.out HLN.out HCI.out HFF.out (by rw [fit, if_pos hf100]; exact hdg))
            clear HF HCI HFF HLN HH
            unfold FW
            go_wp2_with (first | (go_at_call 68; refine (HD.out _).mono ?_; rintro e w1 ⟨rfl, rfl⟩))
            refine bodyPost_ret (v := .tuple #[.agg #[.int .i64 0, .int .i64 0, .string ⟨#[]⟩, .int .i64 0], .int .i64 20]) (by simp [results, Tryz.results70, go_sem, *]) rfl ?_
            exact tpost_err HT.out rfl (by repeat (first | exact Ext.refl _ | apply Ext.alloc))
        · have g1 : ((f.toNat : Int) == 100) = false := by
            rw [beq_eq_false_iff_ne]; intro e; exact hf100 (UInt8.toNat_inj.1 (by have : (100 : UInt8).toNat = 100 := rfl; omega))
          have g2 : ((f.toNat : Int) != 100) = true := by rw [bne_iff_ne]; exact beq_eq_false_iff_ne.1 g1
          by_cases hcf : s[i]'hsi = f
          · have g3 : (((s[i]'hsi).toNat : Int) != (f.toNat : Int)) = false := by rw [hcf]; simp
            have FIN := Lib.hid (show DRel s w (FW w (i + 1)) from ⟨i + 1, by omega, fit_step HF.out HCI.out HFF.out (by rw [fit, if_neg hf100]; exact decide_eq_true hcf), rfl⟩)
            clear HF HCI HFF HLN HH
            unfold FW
            go_wp2_with (first | (go_at_call 68; refine (HD.out _).mono ?_; rintro e w1 ⟨rfl, rfl⟩))
            exact ⟨FIN.out, HM.out⟩
          · have g3 : (((s[i]'hsi).toNat : Int) != (f.toNat : Int)) = true := by
              rw [bne_iff_ne]; intro e; exact hcf (UInt8.toNat_inj.1 (by omega))
            have HT := Lib.hid (fit_bad HH.out HLN.out HCI.out HFF.out (by rw [fit, if_neg hf100]; exact decide_eq_false hcf))
            clear HF HCI HFF HLN HH
            unfold FW
            go_wp2_with (first | (go_at_call 68; refine (HD.out _).mono ?_; rintro e w1 ⟨rfl, rfl⟩))
            refine bodyPost_ret (v := .tuple #[.agg #[.int .i64 0, .int .i64 0, .string ⟨#[]⟩, .int .i64 0], .int .i64 20]) (by simp [results, Tryz.results70, go_sem, *]) rfl ?_
            exact tpost_err HT.out rfl (by repeat (first | exact Ext.refl _ | apply Ext.alloc))
      · obtain rfl : i = 11 := by omega
        have hnx := fun ty => next_end (w.alloc (.cells #[.int .i64 0, .int .i64 0, .string ⟨#[]⟩, .int .i64 0] 46)) (w.heap.size + 1) (by simp) ⟨#[64, 100, 100, 100, 100, 45, 100, 100, 45, 100, 100]⟩ 11 ty (by decide)
        have hdt := fit_all HH.out HLN.out HF.out
        have hx0 : Ext w (FW w 11) := by unfold FW; exact ((Ext.refl w).alloc _).alloc _
        have htb : TBox (FW w 11) w.heap.size 0 0 ⟨#[]⟩ 0 := by unfold FW; exact (TBox.new w 0 0 0 ⟨#[]⟩ 46).ext ((Ext.refl _).alloc _)
        have hP := fun X (hX : Ext w X) => parse_any (s.extract 1 11) X (ten_of hdt) (HL.out.ext hX)
        have hdp := dayP_of s
        have hT0 : dayT s.data.toList = match dayP ((s.data.toList.drop 1).take 10) with | some d => T1.ok 3 11 d | none => .err 5 := by rw [dayT, if_pos hdt] <;> cases dayP ((s.data.toList.drop 1).take 10) <;> rfl
        rw [hdp] at hT0
        unfold DayPost at hP
        generalize yOf (s.extract 1 11) = y at *
        generalize mOf (s.extract 1 11) = m at *
        generalize dOf (s.extract 1 11) = d at *
        have h11s : 11 ≤ s.size := by omega
        cases hb : dateB y m d with
        | true =>
          have HP := Lib.hid (fun X (hX : Ext w X) => (hP X hX).mono (show ∀ e X', _ → (e = .returned (.tuple #[.int .i64 (dayNo y m d : Nat), .int .i64 0]) ∧ Ext X X') from fun e X' h => by rw [hb] at h; rw [chkE, hb] at h; exact h))
          have HT := Lib.hid (show dayT s.data.toList = .ok 3 11 (dayNo y m d : Nat) by rw [hT0, hb]; rfl)
          have HX := Lib.hid hx0
          have HB := Lib.hid htb
          generalize dayNo y m d = N at *
          clear hP hT0 hdp hdt HF HH HLN hx0 htb hb
          unfold FW
          go_wp2_with (first | (go_at_call 116; refine (HP.out _ HX.out).mono ?_; rintro e w1 ⟨rfl, hx⟩; have q := HB.out.ext hx; have hx3 := HX.out.trans hx; obtain ⟨q0, q1, q2, q3, q4, q5, q6, q7, q8⟩ := q))
          refine bodyPost_ret (v := .tuple #[.agg #[.int .i64 3, .int .i64 0, .string (s.extract 0 11), .int .i64 N], .int .i64 0]) (by simp [results, Tryz.results70, go_sem, *]) rfl ?_
          exact tpost_ok HT.out rfl rfl (extract_take _ _) (hx3.store4 (Nat.le_refl _) _ _ _ _)
        | false =>
          have HP := Lib.hid (fun X (hX : Ext w X) => (hP X hX).mono (show ∀ e X', _ → (e = .returned (.tuple #[.int .i64 0, .int .i64 5]) ∧ Ext X X') from fun e X' h => by rw [hb] at h; rw [chkE, hb] at h; exact h))
          have HT := Lib.hid (show dayT s.data.toList = .err 5 by rw [hT0, hb]; rfl)
          have HX := Lib.hid hx0
          have HB := Lib.hid htb
          clear hP hT0 hdp hdt HF HH HLN hx0 htb hb
          unfold FW
          go_wp2_with (first | (go_at_call 116; refine (HP.out _ HX.out).mono ?_; rintro e w1 ⟨rfl, hx⟩; have q := HB.out.ext hx; have hx3 := HX.out.trans hx; obtain ⟨q0, q1, q2, q3, q4, q5, q6, q7, q8⟩ := q))
          refine bodyPost_ret (v := .tuple #[.agg #[.int .i64 0, .int .i64 0, .string ⟨#[]⟩, .int .i64 0], .int .i64 5]) (by simp [results, Tryz.results70, go_sem, *]) rfl ?_
          exact tpost_err HT.out rfl (hx3.store4 (Nat.le_refl _) _ _ _ _)
end Go.Proofs.YtnpenepdechkjaaGreatDoor

/- Plain law: how tokens behave when something is written behind a text. -/
namespace Go.Proofs.YtnpenepdechkjaaGreatDoor
open Go

theorem dated_at {s : List UInt8} (h : dated s = true) {i : Nat} (h1 : 1 ≤ i) (h2 : i ≤ 10) : ∃ c, s[i]? = some c ∧ (dig c = true ∨ c = 45) := by
  simp only [dated, Bool.and_eq_true, decide_eq_true_eq] at h
  obtain ⟨hl, ha, h5, hb, h8, hc⟩ := h
  have hi : i < s.length := by omega
  refine ⟨s[i], List.getElem?_eq_getElem hi, ?_⟩
  have mem : ∀ a n, a ≤ i → i < a + n → s[i] ∈ (s.drop a).take n := fun a n g1 g2 => by
    rw [List.mem_iff_getElem?]
    refine ⟨i - a, ?_⟩
    rw [List.getElem?_take, if_pos (by omega), List.getElem?_drop, show a + (i - a) = i by omega]
    exact List.getElem?_eq_getElem hi
  by_cases i4 : i ≤ 4
  · exact .inl (List.all_eq_true.1 ha _ (mem 1 4 h1 (by omega)))
  · by_cases i5 : i = 5
    · subst i5; rw [List.getElem?_eq_getElem hi] at h5; exact .inr (by simpa using h5)
    · by_cases i7 : i ≤ 7
      · exact .inl (List.all_eq_true.1 hb _ (mem 6 2 (by omega) (by omega)))
      · by_cases i8 : i = 8
        · subst i8; rw [List.getElem?_eq_getElem hi] at h8; exact .inr (by simpa using h8)
        · exact .inl (List.all_eq_true.1 hc _ (mem 9 2 (by omega) (by omega)))
theorem tok1_err_ne {s : List UInt8} {e : Int} (h : tok1 s = .err e) : e ≠ 0 := by
  cases s with
  | nil => injection h with h; subst h; decide
  | cons c r =>
    rw [tok1_cons] at h
    repeat' split at h
    all_goals first | (injection h with h; subst h; decide) | cases h

/-! ### White space and comments -/
theorem skipB_drop : ∀ (cm : Bool) (s : List UInt8), s.drop (s.length - (skipB cm s).length) = skipB cm s
  | _, [] => rfl
  | cm, c :: r => by
    have step : ∀ b, skipB cm (c :: r) = skipB b r → (c :: r).drop ((c :: r).length - (skipB cm (c :: r)).length) = skipB cm (c :: r) := fun b h => by
      have h1 := skipB_len b r
      rw [h, List.length_cons, show r.length + 1 - (skipB b r).length = (r.length - (skipB b r).length) + 1 by omega, List.drop_succ_cons]
      exact skipB_drop b r
    by_cases hc : c = 10
    · exact step false (by rw [skipB, if_pos hc])
    · by_cases h35 : c = 35
      · exact step true (by rw [skipB, if_neg hc, if_pos h35])
      · by_cases hb : (cm || blk c) = true
        · exact step cm (by rw [skipB, if_neg hc, if_neg h35, if_pos hb])
        · rw [show skipB cm (c :: r) = c :: r by rw [skipB, if_neg hc, if_neg h35, if_neg hb], Nat.sub_self]; rfl
/-- Tokens hang on what is left behind the white space, and on where it stands. -/
theorem lex_skip {k k' : Nat} {s s' : List UInt8} (h : skipB false s = skipB false s') (hk : k + s.length = k' + s'.length) : lexW k s = lexW k' s' := by
  have h1 := skipB_len false s
  have h2 := skipB_len false s'
  rw [h] at h1
  by_cases h0 : skipB false s' = []
  · rw [lex_end (h.trans h0), lex_end h0, hk]
  · have e : k + (s.length - (skipB false s').length) = k' + (s'.length - (skipB false s').length) := by omega
    cases ht : tok1 (skipB false s') with
    | err e' => rw [lex_err (s := s) (h ▸ h0) (h ▸ ht), lex_err h0 ht, h, e]
    | ok kd n v =>
      have hn := (tok1_len ht).1
      rw [lex_ok (s := s) (h ▸ h0) (h ▸ ht) hn, lex_ok h0 ht hn, h, e]
end Go.Proofs.YtnpenepdechkjaaGreatDoor

/- Plain law: the tokens of texts that are put together or cut off. -/
namespace Go.Proofs.YtnpenepdechkjaaGreatDoor
open Go

def LexR.putAll (l : List Tk) (r : LexR) : LexR := l.foldr LexR.put r
theorem putAll_nil (r : LexR) : LexR.putAll [] r = r := rfl
theorem putAll_cons (t : Tk) (l : List Tk) (r : LexR) : LexR.putAll (t :: l) r = (LexR.putAll l r).put t := rfl
theorem put_ok {t : Tk} {r : LexR} (h : r.e = 0) : r.put t = ⟨t :: r.l, r.off, 0⟩ := by unfold LexR.put; rw [if_pos h]
theorem put_err {t : Tk} {r : LexR} (h : r.e ≠ 0) : r.put t = r := by unfold LexR.put; rw [if_neg h]
theorem put_e (t : Tk) (r : LexR) : (r.put t).e = r.e := by
  by_cases h : r.e = 0
  · rw [put_ok h, h]
  · rw [put_err h]
theorem putAll_ok {l : List Tk} {r : LexR} (h : r.e = 0) : LexR.putAll l r = ⟨l ++ r.l, r.off, 0⟩ := by
  induction l with
  | nil => rw [putAll_nil]; cases r; simp only at h; subst h; rfl
  | cons t l ih => rw [putAll_cons, ih, put_ok rfl]; rfl
theorem putAll_err {l : List Tk} {r : LexR} (h : r.e ≠ 0) : LexR.putAll l r = r := by
  induction l with
  | nil => rfl
  | cons t l ih => rw [putAll_cons, ih, put_err h]
def endT (k : Nat) : Tk := ⟨0, (k : Nat), [], 0⟩

/-- How the tokens of a text go on. -/
theorem lex_cases (k : Nat) (s : List UInt8) :
    (skipB false s = [] ∧ lexW k s = ⟨[endT (k + s.length)], 0, 0⟩) ∨
    (∃ e, skipB false s ≠ [] ∧ tok1 (skipB false s) = .err e ∧ e ≠ 0 ∧ lexW k s = ⟨[], (k + (s.length - (skipB false s).length) : Nat), e⟩) ∨
    (∃ kd n v, skipB false s ≠ [] ∧ tok1 (skipB false s) = .ok kd n v ∧ 0 < n ∧ n ≤ (skipB false s).length ∧
      lexW k s = (lexW (k + (s.length - (skipB false s).length) + n) ((skipB false s).drop n)).put ⟨kd, (k + (s.length - (skipB false s).length) : Nat), (skipB false s).take n, v⟩) := by
  by_cases h0 : skipB false s = []
  · exact .inl ⟨h0, lex_end h0⟩
  · cases ht : tok1 (skipB false s) with
    | err e => exact .inr (.inl ⟨e, h0, rfl, tok1_err_ne ht, lex_err h0 ht⟩)
    | ok kd n v => exact .inr (.inr ⟨kd, n, v, h0, rfl, (tok1_len ht).1, (tok1_len ht).2, lex_ok h0 ht (tok1_len ht).1⟩)
theorem rest_lt {s : List UInt8} {n : Nat} (h0 : skipB false s ≠ []) (hn : 0 < n) : ((skipB false s).drop n).length < s.length := by
  have h1 := skipB_len false s
  have h2 : 0 < (skipB false s).length := by
    cases hs : skipB false s with
    | nil => exact absurd hs h0
    | cons => simp
  rw [List.length_drop]; omega

/-! ### Two texts with a line feed between them -/
/-! ### Prefixes -/
theorem tw_take {p : UInt8 → Bool} : ∀ (s : List UInt8) (m : Nat), (s.takeWhile p).length ≤ m → (s.take m).takeWhile p = s.takeWhile p
  | [], _, _ => by simp
  | c :: s, 0, h => by
    rw [List.takeWhile_cons] at h ⊢
    split
    · rename_i hc; rw [if_pos hc] at h; simp at h
    · rfl
  | c :: s, m + 1, h => by
    rw [List.take_succ_cons, List.takeWhile_cons, List.takeWhile_cons]
    split
    · rename_i hc
      rw [List.takeWhile_cons, if_pos hc] at h
      rw [tw_take s m (by simpa using h)]
    · rfl
theorem take_drop_take {s : List UInt8} {a n m : Nat} (h : a + n ≤ m) : ((s.take m).drop a).take n = (s.drop a).take n := by
  rw [List.drop_take, List.take_take, Nat.min_eq_left (by omega)]
/-- A token that is read is read out of every prefix that holds it. -/
theorem tok1_take {s : List UInt8} {kd : Int} {n m : Nat} {v : Int} (h : tok1 s = .ok kd n v) (hm : n ≤ m) : tok1 (s.take m) = .ok kd n v := by
  cases s with
  | nil => cases h
  | cons c r =>
    obtain ⟨m, rfl⟩ : ∃ m', m = m' + 1 := ⟨m - 1, by have := (tok1_len h).1; omega⟩
    rw [List.take_succ_cons, tok1_cons]
    rw [tok1_cons] at h
    by_cases hl : low c = true
    · rw [if_pos hl] at h ⊢
      split at h
      · cases h
      · injection h with h1 h2 h3
        rw [← List.take_succ_cons, tw_take _ _ (by omega)]
        rename_i h12
        rw [if_neg h12, h1, h2, h3]
    · rw [if_neg hl] at h ⊢
      by_cases hd : dig c = true
      · rw [if_pos hd] at h ⊢
        split at h
        · cases h
        · split at h
          · cases h
          · rename_i g1 g2
            injection h with h1 h2 h3
            rw [← List.take_succ_cons, tw_take _ _ (by omega), if_neg g1, if_neg g2, h1, h2, h3]
      · rw [if_neg hd] at h ⊢
        by_cases h64 : c = 64
        · rw [if_pos h64] at h ⊢
          split at h
          · rename_i hda
            cases hp : dayP (((c :: r).drop 1).take 10) with
            | none => rw [hp] at h; cases h
            | some d =>
              rw [hp] at h
              injection h with h1 h2 h3
              have hda2 : dated (c :: r.take m) = true := by
                simp only [dated, Bool.and_eq_true, decide_eq_true_eq] at hda ⊢
                obtain ⟨k1, k2, k3, k4, k5, k6⟩ := hda
                rw [← List.take_succ_cons, take_drop_take (by omega), take_drop_take (by omega), take_drop_take (by omega), List.getElem?_take, if_pos (by omega), List.getElem?_take, if_pos (by omega), List.length_take]
                exact ⟨by omega, k2, k3, k4, k5, k6⟩
              rw [if_pos hda2, ← List.take_succ_cons, take_drop_take (by omega), hp]
              simp only [h1, h2, h3]
          · cases h
        · rw [if_neg h64] at h ⊢
          split at h
          · cases h
          · rename_i hs
            injection h with h1 h2 h3
            have e : symN (c :: r.take m) = symN (c :: r) := by
              rw [symN_cons, symN_cons] at *
              cases r with
              | nil => simp
              | cons x r =>
                cases m with
                | zero =>
                  rw [List.take_zero]
                  by_cases hx : (c = 60 ∨ c = 33 ∨ c = 62) ∧ (x :: r).head? = some 61
                  · rw [if_pos hx] at h2; omega
                  · rw [if_neg hx]; simp
                | succ m => simp
            rw [e, if_neg hs, h1, h2, h3]
end Go.Proofs.YtnpenepdechkjaaGreatDoor

/- Lists of tokens in memory; the step of the loop over a source. -/
namespace Go.Proofs.YtnpenepdechkjaaGreatDoor
open Go Go.RowKit

theorem info36 : (Tryz.prog.info? 46).map (fun i => (i.zero, i.size, i.bytes)) = some (some (.agg #[.int .i64 0, .int .i64 0, .string ⟨#[]⟩, .int .i64 0]), 4, 40) := by kernel_rfl
def tcf (t : Tk) : List Value := [.int .i64 t.kd, .int .i64 t.at_, .string ⟨t.tx.toArray⟩, .int .i64 t.nm]
theorem tcf_len (t : Tk) : (tcf t).length = 4 := rfl
theorem tcf_one (t : Tk) : ∀ u ∈ tcf t, u.oneCell' = true := fun u hu => by
  simp only [tcf, List.mem_cons, List.not_mem_nil, or_false] at hu
  rcases hu with rfl | rfl | rfl | rfl <;> rfl
theorem ap23 {w : World} {base : Nat} {v : Value} {l : List Tk} (h : OL tcf 4 w base 46 v l) {A : Option Addr} {m : Nat} {l' : List Tk} (hs : SL tcf 4 w A m l') (c : Nat) (hm : l.length + m ≤ 100000000) (hbase : base ≤ w.heap.size) :
    ∃ A' c' w', (Builtin.append_ #[42, 42] 42 #[v, .slice A m c]).run Tryz.prog w = .ok (.slice A' (l.length + m) c') w' ∧ OL tcf 4 w' base 46 (.slice A' (l.length + m) c') (l ++ l') ∧ (∀ B, B ≤ base → Below B w w') ∧
      (∀ k, k < w.heap.size → (∀ a, v ≠ .slice (some ⟨k, 0, none⟩) l.length a) → w'.heap[k]? = w.heap[k]?) :=
  OL.append tcf_len tcf_one (by omega) Tryz.underlying42 info36 rfl (by omega) h hs c hm hbase
theorem ap23_one (X : World) {base : Nat} {v : Value} {l : List Tk} (ho : OL tcf 4 X base 46 v l) (k a n : Int) (S : ByteArray) (x : List UInt8) (hS : S.data.toList = x) (b : Nat) (hb : b = X.heap.size) (hm : l.length ≤ 10000000) (hbase : base ≤ X.heap.size) :
    ∃ A' c' w', (Builtin.append_ #[42, 42] 42 #[v, .slice (some ⟨b, 0, none⟩) 1 1]).run Tryz.prog (X.alloc (.cells #[.int .i64 k, .int .i64 a, .string S, .int .i64 n] 46)) = .ok (.slice A' (l.length + 1) c') w' ∧
      OL tcf 4 w' base 46 (.slice A' (l.length + 1) c') (l ++ [⟨k, a, x, n⟩]) ∧ Below base X w' ∧ (∀ k, k < X.heap.size → (∀ a, v ≠ .slice (some ⟨k, 0, none⟩) l.length a) → w'.heap[k]? = X.heap[k]?) := by
  subst hb; subst hS
  obtain ⟨A', c', w', h1, h2, h3, h4⟩ := ap23 (ho.ext ((Ext.refl X).alloc _)) (SL.one (cf := tcf) (sz := 4) X ⟨k, a, S.data.toList, n⟩ #[.int .i64 k, .int .i64 a, .string S, .int .i64 n] rfl 46) 1 (by omega) (by simp; omega)
  refine ⟨A', c', w', h1, h2, Below.trans (Below.mono ((Ext.refl X).alloc _) hbase) (h3 base (Nat.le_refl _)), fun k hk hne => ?_⟩
  rw [h4 k (by simp; omega) hne]
  exact ((Ext.refl X).alloc _).block k hk
/-- What lexer.Tokens computes. -/
def lexT (s : List UInt8) : LexR := if 4000 < s.length then ⟨[], 4000, 2⟩ else lexW 0 s
def TokPost (W : World) (r : LexR) (e : Ending) (W' : World) : Prop := ∃ A c, e = .returned (.tuple #[.slice A r.l.length c, .int .i64 r.off, .int .i64 r.e]) ∧ SL tcf 4 W' A r.l.length r.l ∧ Ext W W' ∧ r.l.length ≤ c
/-! ### Steps -/
theorem skipB_true : ∀ l : List UInt8, skipB true l = skipB false (l.dropWhile nlB)
  | [] => rfl
  | c :: r => by
    by_cases h : c = 10
    · have e : nlB c = false := by simp [nlB, h]
      rw [List.dropWhile_cons_of_neg (by rw [e]; decide), skipB, skipB, if_pos h, if_pos h]
    · have e : nlB c = true := by simp [nlB, h]
      rw [List.dropWhile_cons_of_pos e, ← skipB_true r, skipB, if_neg h]
      by_cases h2 : c = 35
      · rw [if_pos h2]
      · rw [if_neg h2]; simp
theorem drop_twn (p : UInt8 → Bool) (l : List UInt8) : l.drop (twn p l) = l.dropWhile p := by
  induction l with
  | nil => rfl
  | cons c r ih =>
    cases h : p c with
    | true => rw [twn_go h, List.dropWhile_cons_of_pos h, Nat.add_comm, List.drop_succ_cons, ih]
    | false => rw [twn_stop h, List.dropWhile_cons_of_neg (by rw [h]; decide), List.drop_zero]
theorem lex_blank {a : Nat} {c : UInt8} {r : List UInt8} (h : blk c = true) : lexW a (c :: r) = lexW (a + 1) r := by
  apply lex_skip
  · rw [skipB]
    by_cases h1 : c = 10
    · rw [if_pos h1]
    · rw [if_neg h1, if_neg (by rintro rfl; revert h; decide), h]; rfl
  · rw [List.length_cons]; omega
theorem lex_comment {a : Nat} {c : UInt8} {r : List UInt8} (h : c = 35) : lexW a (c :: r) = lexW (a + twn nlB (c :: r)) ((c :: r).drop (twn nlB (c :: r))) := by
  have e : nlB c = true := by rw [h]; decide
  apply lex_skip
  · rw [drop_twn, List.dropWhile_cons_of_pos e, ← skipB_true, skipB, if_neg (by rw [h]; decide), if_pos h]
  · have := (List.takeWhile_sublist nlB (l := c :: r)).length_le
    rw [List.length_drop]
    have h2 : twn nlB (c :: r) ≤ (c :: r).length := this
    omega
theorem skip_none {c : UInt8} {r : List UInt8} (h : blk c = false) (h2 : c ≠ 35) : skipB false (c :: r) = c :: r := by
  have h3 : c ≠ 10 := by rintro rfl; revert h; decide
  rw [skipB, if_neg h3, if_neg h2, h]; rfl
theorem lex_tok_err {a : Nat} {c : UInt8} {r : List UInt8} {e : Int} (h : blk c = false) (h2 : c ≠ 35) (ht : tok1 (c :: r) = .err e) : lexW a (c :: r) = ⟨[], (a : Nat), e⟩ := by
  have hs := skip_none (r := r) h h2
  have := lex_err (k := a) (s := c :: r) (e := e) (by rw [hs]; simp) (by rw [hs]; exact ht)
  rw [this, hs, Nat.sub_self, Nat.add_zero]
theorem lex_tok_ok {a n : Nat} {c : UInt8} {r : List UInt8} {k v : Int} (h : blk c = false) (h2 : c ≠ 35) (ht : tok1 (c :: r) = .ok k n v) : lexW a (c :: r) = (lexW (a + n) ((c :: r).drop n)).put ⟨k, (a : Nat), (c :: r).take n, v⟩ := by
  have hs := skip_none (r := r) h h2
  have := lex_ok (k := a) (s := c :: r) (kd := k) (n := n) (v := v) (by rw [hs]; simp) (by rw [hs]; exact ht) (tok1_len ht).1
  rw [this, hs, Nat.sub_self, Nat.add_zero]
end Go.Proofs.YtnpenepdechkjaaGreatDoor

/- Trees of the rule language, and its parser in plain Lean. -/
namespace Go.Proofs.YtnpenepdechkjaaGreatDoor

inductive Tr where
  | nd (k n : Int) (s : List UInt8) (kids : List Tr)
inductive PR (α : Type) where
  | ok (v : α) (r : List Tk)
  | bad (r : List Tk) (e : Int)
def PR.bind {α β : Type} : PR α → (α → List Tk → PR β) → PR β
  | .ok v r, f => f v r
  | .bad r e, _ => .bad r e
@[simp] theorem PR.bind_ok {α β : Type} (v : α) (r : List Tk) (f : α → List Tk → PR β) : (PR.ok v r).bind f = f v r := rfl
@[simp] theorem PR.bind_bad {α β : Type} (r : List Tk) (e : Int) (f : α → List Tk → PR β) : (PR.bad r e).bind f = .bad r e := rfl
def tkE : Tk := ⟨0, 0, [], 0⟩
def hd (r : List Tk) : Tk := r.headD tkE
def wOr : List UInt8 := [111, 114]
def wAnd : List UInt8 := [97, 110, 100]
def wPlus : List UInt8 := [43]
def wMinus : List UInt8 := [45]
def wStar : List UInt8 := [42]
def wOpen : List UInt8 := [40]
def wClose : List UInt8 := [41]
def wComma : List UInt8 := [44]
def wIf : List UInt8 := [105, 102]
def wThen : List UInt8 := [116, 104, 101, 110]
def wElse : List UInt8 := [101, 108, 115, 101]
def wEnd : List UInt8 := [101, 110, 100]
def wNot : List UInt8 := [110, 111, 116]
def wTrue : List UInt8 := [116, 114, 117, 101]
def wFalse : List UInt8 := [102, 97, 108, 115, 101]
def wNext : List UInt8 := [110, 101, 120, 116]
def wPrev : List UInt8 := [112, 114, 101, 118]
def wRule : List UInt8 := [114, 117, 108, 101]
def wFrom : List UInt8 := [102, 114, 111, 109]
def wOn : List UInt8 := [111, 110]
def wDue : List UInt8 := [100, 117, 101]
def wUnless : List UInt8 := [117, 110, 108, 101, 115, 115]
def wSemi : List UInt8 := [59]
def wBrace : List UInt8 := [123]
def wBraceE : List UInt8 := [125]
def wDays : List UInt8 := [100, 97, 121, 115]
def wWeeks : List UInt8 := [119, 101, 101, 107, 115]
def wMonths : List UInt8 := [109, 111, 110, 116, 104, 115]
def wCourtdays : List UInt8 := [99, 111, 117, 114, 116, 100, 97, 121, 115]
def wDay : List UInt8 := [100, 97, 121]
def wServed : List UInt8 := [115, 101, 114, 118, 101, 100]
def wExtra : List UInt8 := [101, 120, 116, 114, 97]
def wBy : List UInt8 := [98, 121]
def wTo : List UInt8 := [116, 111]
def wCourt : List UInt8 := [99, 111, 117, 114, 116]
def wAmount : List UInt8 := [97, 109, 111, 117, 110, 116]
def wLater : List UInt8 := [108, 97, 116, 101, 114]
def wEarlier : List UInt8 := [101, 97, 114, 108, 105, 101, 114]
def wBetween : List UInt8 := [98, 101, 116, 119, 101, 101, 110]
def wLt : List UInt8 := [60]
def wLe : List UInt8 := [60, 61]
def wEq : List UInt8 := [61]
def wNe : List UInt8 := [33, 61]
def wGt : List UInt8 := [62]
def wGe : List UInt8 := [62, 61]
def cmpOps : List (List UInt8) := [wLt, wLe, wEq, wNe, wGt, wGe]
def units : List (List UInt8) := [wDays, wWeeks, wMonths, wCourtdays]
def fields : List (List UInt8) := [wDay, wServed, wExtra, wBy, wTo, wCourt, wAmount]
def functions : List (List UInt8) := [wNext, wPrev, wLater, wEarlier, wBetween]
def words : List (List UInt8) := [wRule, wFrom, wOn, wIf, wDue, wUnless, wElse, wTrue, wFalse, wNot, wAnd, wOr, wThen, wEnd]
def reserved : List (List UInt8) := words ++ (units ++ (fields ++ functions))
/-- The level of a binary operator. -/
def lvOf (x : List UInt8) : Nat := if x = wOr then 1 else if x = wAnd then 2 else if x ∈ cmpOps then 4 else if x = wPlus ∨ x = wMinus then 5 else if x = wStar then 6 else 0
def mustP (s : List UInt8) (r : List Tk) : PR Unit := if (hd r).tx = s then .ok () r.tail else .bad r 20
def tokP (k : Int) (r : List Tk) : PR Tk := if (hd r).kd = k then .ok (hd r) r.tail else .bad r 20
def nameP (r : List Tk) : PR (List UInt8) := if (hd r).tx ∈ reserved then .bad r 20 else (tokP 1 r).bind fun t r => .ok t.tx r
def opensP (s : List UInt8) (o : Nat) (r : List Tk) : PR Unit := if (hd r).tx = s then (if o = 12 then .bad r 2 else .ok () r.tail) else .bad r 20
/-- The node of a binary operator, behind whose operands there may be a unit. -/
def joinP (lv : Nat) (op : List UInt8) (a b : Tr) (r : List Tk) : Tr × List Tk :=
  if lv = 5 ∧ (hd r).tx ∈ units then (.nd (if op = wMinus then 8 else 7) 0 (hd r).tx [a, b], r.tail) else (.nd 6 0 op [a, b], r)
def loopP (E : Nat → Nat → List Tk → PR Tr) (lv o : Nat) : Nat → Tr → List Tk → PR Tr
  | 0, n, r => .ok n r
  | g + 1, n, r => if lvOf (hd r).tx = lv then (E (lv + 1) o r.tail).bind fun b r2 =>
      if lv = 4 then .ok (joinP lv (hd r).tx n b r2).1 (joinP lv (hd r).tx n b r2).2 else loopP E lv o g (joinP lv (hd r).tx n b r2).1 (joinP lv (hd r).tx n b r2).2
    else .ok n r
def argsN (s : List UInt8) : Nat := if s = wNext ∨ s = wPrev then 1 else 2
def callP (E : Nat → Nat → List Tk → PR Tr) (o : Nat) (r : List Tk) : PR Tr :=
  (tokP 1 r).bind fun t r => (opensP wOpen o r).bind fun _ r => (E 1 (o + 1) r).bind fun a r =>
    if argsN t.tx = 1 then (mustP wClose r).bind fun _ r => .ok (.nd 10 0 t.tx [a]) r
    else (mustP wComma r).bind fun _ r => (E 1 (o + 1) r).bind fun b r => (mustP wClose r).bind fun _ r => .ok (.nd 10 0 t.tx [a, b]) r
def choiceP (E : Nat → Nat → List Tk → PR Tr) (o : Nat) (r : List Tk) : PR Tr :=
  (opensP wIf o r).bind fun _ r => (E 1 (o + 1) r).bind fun a r => (mustP wThen r).bind fun _ r => (E 1 (o + 1) r).bind fun b r => (mustP wElse r).bind fun _ r => (E 1 (o + 1) r).bind fun c r => (mustP wEnd r).bind fun _ r => .ok (.nd 9 0 [] [a, b, c]) r
def primP (E : Nat → Nat → List Tk → PR Tr) (o : Nat) (r : List Tk) : PR Tr :=
  if (hd r).kd = 2 then .ok (.nd 1 (hd r).nm [] []) r.tail
  else if (hd r).kd = 3 then .ok (.nd 3 (hd r).nm [] []) r.tail
  else if (hd r).tx = wTrue then .ok (.nd 2 1 [] []) r.tail
  else if (hd r).tx = wFalse then .ok (.nd 2 0 [] []) r.tail
  else if (hd r).tx = wOpen then (opensP wOpen o r).bind fun _ r => (E 1 (o + 1) r).bind fun n r => (mustP wClose r).bind fun _ r => .ok n r
  else if (hd r).tx = wIf then choiceP E o r
  else if (hd r).tx ∈ functions then callP E o r
  else if (hd r).tx ∈ fields then .ok (.nd 4 0 (hd r).tx []) r.tail
  else .bad r 20
def stepP (E : Nat → Nat → List Tk → PR Tr) (lv o : Nat) (r : List Tk) : PR Tr :=
  if lv = 3 ∧ (hd r).tx = wNot ∨ lv = 7 ∧ (hd r).tx = wMinus then (opensP (hd r).tx o r).bind fun _ r2 => (E lv (o + 1) r2).bind fun n r3 => .ok (.nd 5 0 (hd r).tx [n]) r3
  else if lv = 8 then primP E o r
  else (E (lv + 1) o r).bind fun n r2 => loopP E lv o r2.length n r2
/-- An expression of a level, with fuel. -/
def exprP : Nat → Nat → Nat → List Tk → PR Tr
  | 0 => fun _ _ r => .bad r 0
  | f + 1 => stepP (exprP f)
structure Rl where
  name : List UInt8
  from_ : Int
  on_ : List UInt8
  if_ : Tr
  due : Tr
  unless_ : List UInt8
  else_ : List UInt8
def trTrue : Tr := .nd 2 1 [] []
/-- An optional part: a word, what is read, and a semicolon. -/
def partP {α : Type} (w : List UInt8) (none_ : α) (rd : List Tk → PR α) (r : List Tk) : PR α :=
  if (hd r).tx = w then (rd r.tail).bind fun x r => (mustP wSemi r).bind fun _ r => .ok x r else .ok none_ r
def ruleP (E : List Tk → PR Tr) (r : List Tk) : PR Rl :=
  (mustP wRule r).bind fun _ r => (nameP r).bind fun nm r => (mustP wFrom r).bind fun _ r => (tokP 3 r).bind fun d r => (mustP wBrace r).bind fun _ r =>
    (mustP wOn r).bind fun _ r => (nameP r).bind fun on_ r => (mustP wSemi r).bind fun _ r => (partP wIf trTrue E r).bind fun i r =>
      (mustP wDue r).bind fun _ r => (E r).bind fun due r => (mustP wSemi r).bind fun _ r => (partP wUnless [] nameP r).bind fun u r => (partP wElse [] nameP r).bind fun e r =>
        (mustP wBraceE r).bind fun _ r => .ok ⟨nm, d.nm, on_, i, due, u, e⟩ r
def rulesP (E : List Tk → PR Tr) : Nat → List Rl → List Tk → PR (List Rl)
  | 0, l, r => .ok l r
  | g + 1, l, r => if (hd r).kd = 0 then .ok l r else (ruleP E r).bind fun x r2 => rulesP E g (l ++ [x]) r2
end Go.Proofs.YtnpenepdechkjaaGreatDoor

/- Plain law: cut off texts, texts that are woven anew, what stands between tokens. -/
namespace Go.Proofs.YtnpenepdechkjaaGreatDoor
open Go

/-! ### An error stays where it is -/
/-! ### Tokens but for their places -/
def tri (t : Tk) : Int × List UInt8 × Int := (t.kd, t.tx, t.nm)
/-- The tokens of a text without an error. -/
def TokOK (t : Tk) : Prop := t.tx ≠ [] ∧ t.kd ≠ 0 ∧ tok1 t.tx = .ok t.kd t.tx.length t.nm
theorem tok1_kind {s : List UInt8} {kd : Int} {n : Nat} {v : Int} (h : tok1 s = .ok kd n v) : 1 ≤ kd ∧ kd ≤ 4 := by
  cases s with
  | nil => cases h
  | cons c r =>
    rw [tok1_cons] at h
    repeat' split at h
    all_goals first | (injection h with h1 _ _; subst h1; decide) | cases h
theorem tok1_ok {s : List UInt8} {kd : Int} {n : Nat} {v : Int} (h : tok1 s = .ok kd n v) (a : Int) : TokOK ⟨kd, a, s.take n, v⟩ := by
  obtain ⟨h1, h2⟩ := tok1_len h
  have hl : (s.take n).length = n := by rw [List.length_take]; omega
  refine ⟨fun e => ?_, ?_, ?_⟩
  · have := congrArg List.length e
    rw [hl] at this; simp at this; omega
  · have := tok1_kind h; show kd ≠ 0; omega
  · show tok1 (s.take n) = .ok kd (s.take n).length v
    rw [hl]; exact tok1_take h (Nat.le_refl _)
theorem lex_toks : ∀ (m : Nat) (s : List UInt8), s.length ≤ m → ∀ k, (lexW k s).e = 0 → (lexW k s).off = 0 ∧ ∃ ts, (lexW k s).l = ts ++ [endT (k + s.length)] ∧ ∀ t ∈ ts, TokOK t := by
  intro m
  induction m with
  | zero =>
    intro s hs k he
    obtain rfl : s = [] := List.length_eq_zero_iff.1 (by omega)
    rw [lex_end (k := k) (s := []) rfl]
    exact ⟨rfl, [], rfl, fun t h => by cases h⟩
  | succ m ih =>
    intro s hs k he
    have hl := skipB_len false s
    rcases lex_cases k s with ⟨h0, h1⟩ | ⟨e, h0, ht, hne, h1⟩ | ⟨kd, n, v, h0, ht, hn, hnl, h1⟩
    · rw [h1]; exact ⟨rfl, [], rfl, fun t h => by cases h⟩
    · rw [h1] at he; exact absurd he hne
    · have hr := rest_lt h0 hn
      rw [h1, put_e] at he
      obtain ⟨g1, ts, g2, g3⟩ := ih ((skipB false s).drop n) (by omega) _ he
      rw [h1, put_ok he]
      refine ⟨g1, ⟨kd, (k + (s.length - (skipB false s).length) : Nat), (skipB false s).take n, v⟩ :: ts, ?_, ?_⟩
      · show _ :: _ = _
        rw [g2, List.length_drop, show k + (s.length - (skipB false s).length) + n + ((skipB false s).length - n) = k + s.length by omega]
        rfl
      · intro t ht2
        rcases List.mem_cons.1 ht2 with rfl | h
        · exact tok1_ok ht _
        · exact g3 t h

/-! ### Weaving -/
/-! ### White space and comments alone -/
end Go.Proofs.YtnpenepdechkjaaGreatDoor

/- Lists of tokens as the lexer gives them; words within lists of words. -/
namespace Go.Proofs.YtnpenepdechkjaaGreatDoor
open Go

/-- Tokens as the lexer gives them: at the end the end. -/
def WfT (l : List Tk) : Prop := ∃ ts k, l = ts ++ [endT k] ∧ ∀ t ∈ ts, TokOK t
theorem WfT.pos {l : List Tk} (h : WfT l) : 0 < l.length := by obtain ⟨ts, k, rfl, _⟩ := h; simp
theorem WfT.all {l : List Tk} (h : WfT l) {t : Tk} (ht : t ∈ l) : TokOK t ∨ (t.kd = 0 ∧ t.tx = []) := by
  obtain ⟨ts, k, rfl, h2⟩ := h
  rcases List.mem_append.1 ht with h3 | h3
  · exact .inl (h2 t h3)
  · obtain rfl : t = endT k := by simpa using h3
    exact .inr ⟨rfl, rfl⟩
theorem WfT.tail {t : Tk} {l : List Tk} (h : WfT (t :: l)) (hk : t.kd ≠ 0) : WfT l := by
  obtain ⟨ts, k, e, h2⟩ := h
  cases ts with
  | nil =>
    simp only [List.nil_append, List.cons.injEq] at e
    obtain ⟨rfl, _⟩ := e
    exact absurd rfl hk
  | cons a ts =>
    simp only [List.cons_append, List.cons.injEq] at e
    obtain ⟨rfl, rfl⟩ := e
    exact ⟨ts, k, rfl, fun t ht => h2 t (List.mem_cons_of_mem _ ht)⟩
theorem WfT.hd {l : List Tk} (h : WfT l) : ∃ t r, l = t :: r := by
  have := h.pos
  cases l with
  | nil => simp at this
  | cons t r => exact ⟨t, r, rfl⟩
theorem tokOK_cons {t : Tk} (h : TokOK t) : ∃ c r, t.tx = c :: r ∧ tok1 (c :: r) = .ok t.kd t.tx.length t.nm := by
  obtain ⟨h1, _, h3⟩ := h
  cases hx : t.tx with
  | nil => exact absurd hx h1
  | cons c r => exact ⟨c, r, rfl, by rw [hx] at h3; exact h3⟩
/-- A token that begins with a letter is a word. -/
theorem tokOK_word {t : Tk} (h : TokOK t) {c : UInt8} {r : List UInt8} (hx : t.tx = c :: r) (hc : low c = true) : t.kd = 1 := by
  obtain ⟨c', r', hx', h3⟩ := tokOK_cons h
  rw [hx] at hx'
  injection hx' with e1 e2
  subst e1 e2
  rw [tok1_cons, if_pos hc] at h3
  split at h3
  · cases h3
  · injection h3 with h4; exact h4.symm
theorem twp_all {p : UInt8 → Bool} : ∀ (l : List UInt8), (l.takeWhile p).length = l.length → l.all p = true
  | [], _ => rfl
  | c :: r, h => by
    cases hc : p c with
    | false => rw [List.takeWhile_cons, hc] at h; simp at h
    | true =>
      rw [List.takeWhile_cons, hc] at h
      simp only [if_true, List.length_cons, Nat.add_right_cancel_iff] at h
      rw [List.all_cons, hc, twp_all r h]; rfl
theorem all_no32 {p : UInt8 → Bool} (hp : p 32 = false) {l : List UInt8} (h : l.all p = true) : (32 : UInt8) ∉ l := fun hm => by
  have := List.all_eq_true.1 h 32 hm
  rw [hp] at this; cases this
/-- No token's text holds a blank. -/
theorem tokOK_no32 {t : Tk} (h : TokOK t) : (32 : UInt8) ∉ t.tx := by
  obtain ⟨c, r, hx, h3⟩ := tokOK_cons h
  rw [hx] at h3 ⊢
  rw [tok1_cons] at h3
  split at h3
  · split at h3
    · cases h3
    · injection h3 with _ h5 _
      exact all_no32 (by decide) (twp_all _ h5)
  · split at h3
    · split at h3
      · cases h3
      · split at h3
        · cases h3
        · injection h3 with _ h5 _
          exact all_no32 (by decide) (twp_all _ h5)
    · split at h3
      · rename_i h64
        subst h64
        split at h3
        · rename_i hd
          split at h3
          · injection h3 with _ h5 _
            intro hm
            obtain ⟨i, hi⟩ := List.getElem?_of_mem hm
            have hlen := (List.getElem?_eq_some_iff.1 hi).1
            by_cases i0 : i = 0
            · subst i0; simp at hi
            · obtain ⟨c, hc, h6⟩ := dated_at hd (i := i) (by omega) (by omega)
              rw [hi] at hc
              injection hc with hc
              subst hc
              rcases h6 with h6 | h6
              · exact absurd h6 (by decide)
              · exact absurd h6 (by decide)
          · cases h3
        · cases h3
      · split at h3
        · cases h3
        · injection h3 with _ h5 _
          rw [symN_cons] at h5
          split at h5
          · rename_i h6
            cases r with
            | nil => simp at h6
            | cons d r =>
              simp only [List.head?_cons, Option.some.injEq] at h6
              have : r = [] := by simpa using h5.symm
              subst this
              obtain ⟨h7, rfl⟩ := h6
              rcases h7 with rfl | rfl | rfl <;> decide
          · split at h5
            · rename_i h6
              have : r = [] := by simpa using h5.symm
              subst this
              rcases h6 with rfl | rfl | rfl | rfl | rfl | rfl | rfl | rfl | rfl | rfl | rfl | rfl <;> decide
            · simp at h5
theorem WfT.no32 {l : List Tk} (h : WfT l) {t : Tk} (ht : t ∈ l) : (32 : UInt8) ∉ t.tx := by
  rcases h.all ht with h1 | ⟨_, h2⟩
  · exact tokOK_no32 h1
  · rw [h2]; simp
theorem WfT.kd0 {l : List Tk} (h : WfT l) {t : Tk} (ht : t ∈ l) (hx : t.tx ≠ []) : t.kd ≠ 0 := by
  rcases h.all ht with h1 | ⟨_, h2⟩
  · exact h1.2.1
  · exact absurd h2 hx
theorem WfT.word {l : List Tk} (h : WfT l) {t : Tk} (ht : t ∈ l) {c : UInt8} {r : List UInt8} (hx : t.tx = c :: r) (hc : low c = true) : t.kd = 1 := by
  rcases h.all ht with h1 | ⟨_, h2⟩
  · exact tokOK_word h1 hx hc
  · rw [h2] at hx; cases hx
/-! ### Words within lists of words -/
def Jw : List (List UInt8) → List UInt8
  | [] => [32]
  | w :: ws => 32 :: (w ++ Jw ws)
theorem contains_cons (b : UInt8) (l sub : List UInt8) : Lib.contains (b :: l) sub = (sub.isPrefixOf (b :: l) || Lib.contains l sub) := by
  unfold Lib.contains
  rw [Lib.index]
  have h := Lib.index_ge l sub
  cases hp : sub.isPrefixOf (b :: l) with
  | true => simp
  | false =>
    simp only [Bool.false_eq_true, if_false, Bool.false_or]
    by_cases h1 : Lib.index l sub = -1
    · rw [h1]; simp
    · have : (Lib.index l sub == -1) = false := by simpa using h1
      rw [this]
      simp only [Bool.false_eq_true, if_false]
      rw [decide_eq_decide]; omega
theorem pre_word (rest : List UInt8) : ∀ (s w : List UInt8), (32 : UInt8) ∉ s → (32 : UInt8) ∉ w → (s ++ [32]).isPrefixOf (w ++ 32 :: rest) = decide (s = w)
  | [], [], _, _ => by simp
  | [], c :: w, _, hw => by
    have : ¬ (32 : UInt8) = c := fun e => hw (by rw [← e]; exact List.mem_cons_self ..)
    simp [List.isPrefixOf, this]
  | c :: s, [], hs, _ => by
    have : ¬ c = 32 := fun e => hs (by rw [← e]; exact List.mem_cons_self ..)
    simp [List.isPrefixOf, this]
  | c :: s, d :: w, hs, hw => by
    have ih := pre_word rest s w (fun h => hs (List.mem_cons_of_mem _ h)) (fun h => hw (List.mem_cons_of_mem _ h))
    simp only [List.cons_append, List.isPrefixOf_cons_cons, ih]
    by_cases h : c = d
    · subst h; simp
    · simp [h]
theorem Jw_head : ∀ ws, ∃ r, Jw ws = 32 :: r
  | [] => ⟨[], rfl⟩
  | w :: ws => ⟨w ++ Jw ws, rfl⟩
theorem contains_word (s l : List UInt8) : ∀ (w : List UInt8), (32 : UInt8) ∉ w → Lib.contains (w ++ l) (32 :: (s ++ [32])) = Lib.contains l (32 :: (s ++ [32]))
  | [], _ => rfl
  | c :: w, hw => by
    have : ¬ (32 : UInt8) = c := fun e => hw (by rw [← e]; exact List.mem_cons_self ..)
    rw [List.cons_append, contains_cons, contains_word s l w (fun h => hw (List.mem_cons_of_mem _ h))]
    simp [this]
theorem contains_J (s : List UInt8) (hs : (32 : UInt8) ∉ s) (hne : s ≠ []) : ∀ (ws : List (List UInt8)), (∀ w ∈ ws, (32 : UInt8) ∉ w) → Lib.contains (Jw ws) (32 :: (s ++ [32])) = decide (s ∈ ws)
  | [], _ => by
    rw [Jw, contains_cons]
    cases s with
    | nil => exact absurd rfl hne
    | cons c s => simp [Lib.contains, Lib.index]
  | w :: ws, hw => by
    obtain ⟨r, hr⟩ := Jw_head ws
    have hw1 := hw w (List.mem_cons_self ..)
    rw [Jw, contains_cons, contains_word s (Jw ws) w hw1, contains_J s hs hne ws (fun x hx => hw x (List.mem_cons_of_mem _ hx))]
    rw [hr, List.isPrefixOf_cons_cons, pre_word r s w hs hw1]
    simp
end Go.Proofs.YtnpenepdechkjaaGreatDoor

/- Trees and the parser's state in memory. -/
namespace Go.Proofs.YtnpenepdechkjaaGreatDoor
open Go Go.RowKit

/-- The head of a node in memory. -/
structure Nd where
  k : Int
  n : Int
  s : ByteArray
  A : Option Addr
  m : Nat
  c : Nat
def ndcf (h : Nd) : List Value := [.int .i64 h.k, .int .i64 h.n, .string h.s, .slice h.A h.m h.c]
def Nd.val (h : Nd) : Value := .agg #[.int .i64 h.k, .int .i64 h.n, .string h.s, .slice h.A h.m h.c]
theorem ndcf_len (h : Nd) : (ndcf h).length = 4 := rfl
theorem ndcf_one (h : Nd) : ∀ u ∈ ndcf h, u.oneCell' = true := fun u hu => by
  simp only [ndcf, List.mem_cons, List.not_mem_nil, or_false] at hu
  rcases hu with rfl | rfl | rfl | rfl <;> rfl
/-- d is the head of the tree t, all of whose rows lie in blocks of which P holds. -/
inductive Rep (W : World) (P : Nat → Prop) : Nd → Tr → Prop
  | mk (k n : Int) (s : List UInt8) (A : Option Addr) (c : Nat) (hs : List Nd) (ks : List Tr) (h0 : ∀ x, A = some x → P x.block ∧ x.block < W.heap.size) (h1 : SL ndcf 4 W A hs.length hs) (h2 : hs.length = ks.length)
      (h3 : ∀ (i : Nat) (h : Nd) (t : Tr), hs[i]? = some h → ks[i]? = some t → Rep W P h t) : Rep W P ⟨k, n, ⟨s.toArray⟩, A, hs.length, c⟩ (.nd k n s ks)
theorem SL.blocks {α : Type} {cf : α → List Value} {sz : Nat} {W W' : World} {A : Option Addr} {m : Nat} {l : List α} (h : SL cf sz W A m l) (hk : ∀ x, A = some x → x.block < W.heap.size → W'.heap[x.block]? = W.heap[x.block]?) : SL cf sz W' A m l := by
  refine ⟨h.1, fun h0 => ?_⟩
  obtain ⟨b, off, e, hb, hc⟩ := h.2 h0
  have he := hk _ e hb
  simp only at he
  refine ⟨b, off, e, ?_, fun i x hx j u hu => ?_⟩
  · have h5 : W.heap[b]? ≠ none := by rw [Array.getElem?_eq_getElem hb]; simp
    rw [← he] at h5
    by_cases h6 : b < W'.heap.size
    · exact h6
    · exact absurd (Array.getElem?_eq_none (by omega)) h5
  · rw [World.cell?_of_block (a := ⟨b, _, none⟩) he]; exact hc i x hx j u hu
theorem Rep.keep {W W' : World} {P : Nat → Prop} {d : Nd} {t : Tr} (h : Rep W P d t) (hsz : W.heap.size ≤ W'.heap.size) (hk : ∀ k, P k → k < W.heap.size → W'.heap[k]? = W.heap[k]?) : Rep W' P d t := by
  induction h with
  | mk k n s A c hs ks h0 h1 h2 _ ih => exact .mk k n s A c hs ks (fun x hx => ⟨(h0 x hx).1, Nat.lt_of_lt_of_le (h0 x hx).2 hsz⟩) (h1.blocks fun x hx hl => hk _ (h0 x hx).1 hl) h2 ih
theorem Rep.mono {W : World} {P Q : Nat → Prop} {d : Nd} {t : Tr} (h : Rep W P d t) (hq : ∀ k, P k → k < W.heap.size → Q k) : Rep W Q d t := by
  induction h with
  | mk k n s A c hs ks h0 h1 h2 _ ih => exact .mk k n s A c hs ks (fun x hx => ⟨hq _ (h0 x hx).1 (h0 x hx).2, (h0 x hx).2⟩) h1 h2 ih
theorem Rep.ext {W W' : World} {P : Nat → Prop} {d : Nd} {t : Tr} (h : Rep W P d t) (hx : Ext W W') : Rep W' P d t := h.keep hx.lt fun k _ hk => hx.block k hk
theorem Rep.leaf (W : World) (P : Nat → Prop) (k n : Int) (s : List UInt8) : Rep W P ⟨k, n, ⟨s.toArray⟩, none, 0, 0⟩ (.nd k n s []) :=
  .mk k n s none 0 [] [] (fun _ h => by cases h) (SL.nil W) rfl (fun i h t hh => by simp at hh)
/-- The state of the parser in its block. -/
structure PB (W : World) (b : Nat) (A : Option Addr) (N c : Nat) (toks : List Tk) (a o : Nat) : Prop where
  blk : W.heap[b]? = some (.cells #[.slice A N c, .int .i64 a, .int .i64 o] 57 (0, 0))
  tok : SL tcf 4 W A N toks
  wf : WfT toks
  old : ∀ x, A = some x → x.block ≠ b
  at_ : a < N
  ml : ∃ m : Int, W.cell? ⟨0, 0, none⟩ = some (.int .i64 m)
  b0 : 0 < b
  nb : N ≤ 100000
  sz : ∀ t ∈ toks, t.tx.length ≤ 100000
/-- Nothing but the block b has turned. -/
structure Mv (b : Nat) (W W' : World) : Prop where
  size : W.heap.size ≤ W'.heap.size
  keep : ∀ k, k ≠ b → k < W.heap.size → W'.heap[k]? = W.heap[k]?
  ext : ∀ w0, w0.heap.size ≤ b → Ext w0 W → Ext w0 W'
theorem Mv.refl (b : Nat) (W : World) : Mv b W W := ⟨Nat.le_refl _, fun _ _ _ => rfl, fun _ _ h => h⟩
theorem Mv.trans {b : Nat} {W W' W'' : World} (h : Mv b W W') (k : Mv b W' W'') : Mv b W W'' :=
  ⟨Nat.le_trans h.size k.size, fun j hj hl => (k.keep j hj (Nat.lt_of_lt_of_le hl h.size)).trans (h.keep j hj hl), fun w0 h0 hx => k.ext w0 h0 (h.ext w0 h0 hx)⟩
theorem Mv.of_ext {b : Nat} {W W' : World} (h : Ext W W') : Mv b W W' := ⟨h.lt, fun k _ hk => h.block k hk, fun _ _ hx => hx.trans h⟩
theorem Mv.set {W : World} {b i : Nat} (u : Value) : Mv b W (W.setCell ⟨b, i, none⟩ u) :=
  ⟨by simp, fun k hk _ => heap_setCell_other W ⟨b, i, none⟩ k u hk, fun w0 h0 hx => hx.setCell (p := ⟨b, i, none⟩) h0 u⟩
theorem Rep.mv {W W' : World} {P : Nat → Prop} {b : Nat} {d : Nd} {t : Tr} (h : Rep W P d t) (hm : Mv b W W') (hb : ∀ k, P k → k ≠ b) : Rep W' P d t := h.keep hm.size fun k h1 h2 => hm.keep k (hb k h1) h2
theorem PB.lt {W : World} {b : Nat} {A : Option Addr} {N c : Nat} {toks : List Tk} {a o : Nat} (h : PB W b A N c toks a o) : b < W.heap.size := lt_of_block h.blk
theorem PB.len {W : World} {b : Nat} {A : Option Addr} {N c : Nat} {toks : List Tk} {a o : Nat} (h : PB W b A N c toks a o) : N = toks.length := h.tok.1
theorem PB.ext {W W' : World} {b : Nat} {A : Option Addr} {N c : Nat} {toks : List Tk} {a o : Nat} (h : PB W b A N c toks a o) (hx : Ext W W') : PB W' b A N c toks a o :=
  ⟨by rw [hx.block b h.lt]; exact h.blk, h.tok.ext hx, h.wf, h.old, h.at_, by
    obtain ⟨m, hm⟩ := h.ml
    exact ⟨m, by rw [hx.cells.1 0 0 (by have := h.lt; omega)]; exact hm⟩, h.b0, h.nb, h.sz⟩
theorem PB.c0 {W : World} {b : Nat} {A : Option Addr} {N c : Nat} {toks : List Tk} {a o : Nat} (h : PB W b A N c toks a o) : W.cell? ⟨b, 0, none⟩ = some (.slice A N c) := by rw [cell_of_row W _ _ _ 57 (0, 0) h.blk]; rfl
theorem PB.c1 {W : World} {b : Nat} {A : Option Addr} {N c : Nat} {toks : List Tk} {a o : Nat} (h : PB W b A N c toks a o) : W.cell? ⟨b, 1, none⟩ = some (.int .i64 a) := by rw [cell_of_row W _ _ _ 57 (0, 0) h.blk]; rfl
theorem PB.c2 {W : World} {b : Nat} {A : Option Addr} {N c : Nat} {toks : List Tk} {a o : Nat} (h : PB W b A N c toks a o) : W.cell? ⟨b, 2, none⟩ = some (.int .i64 o) := by rw [cell_of_row W _ _ _ 57 (0, 0) h.blk]; rfl
theorem PB.fz {W : World} {b : Nat} {A : Option Addr} {N c : Nat} {toks : List Tk} {a o : Nat} (h : PB W b A N c toks a o) (i : Nat) : W.frozen? ⟨b, i, none⟩ = false := frozen_of_row W _ i _ 57 h.blk
theorem PB.set1 {W : World} {b : Nat} {A : Option Addr} {N c : Nat} {toks : List Tk} {a o : Nat} (h : PB W b A N c toks a o) (a' : Nat) (ha : a' < N) : PB (W.setCell ⟨b, 1, none⟩ (.int .i64 a')) b A N c toks a' o :=
  ⟨(heap_setCell_same W b 1 _ 57 _ h.blk).trans rfl, h.tok.blocks fun x hx _ => heap_setCell_other W _ _ _ (h.old x hx), h.wf, h.old, ha, by
    obtain ⟨m, hm⟩ := h.ml
    exact ⟨m, by rw [World.cell?_of_block (a := ⟨0, 0, none⟩) (heap_setCell_other W _ _ _ (by have := h.b0; simp only; omega))]; exact hm⟩, h.b0, h.nb, h.sz⟩
theorem PB.set2 {W : World} {b : Nat} {A : Option Addr} {N c : Nat} {toks : List Tk} {a o : Nat} (h : PB W b A N c toks a o) (o' : Nat) : PB (W.setCell ⟨b, 2, none⟩ (.int .i64 o')) b A N c toks a o' :=
  ⟨(heap_setCell_same W b 2 _ 57 _ h.blk).trans rfl, h.tok.blocks fun x hx _ => heap_setCell_other W _ _ _ (h.old x hx), h.wf, h.old, h.at_, by
    obtain ⟨m, hm⟩ := h.ml
    exact ⟨m, by rw [World.cell?_of_block (a := ⟨0, 0, none⟩) (heap_setCell_other W _ _ _ (by have := h.b0; simp only; omega))]; exact hm⟩, h.b0, h.nb, h.sz⟩
/-- The token at the cursor. -/
theorem PB.tk {W : World} {b : Nat} {A : Option Addr} {N c : Nat} {toks : List Tk} {a o : Nat} (h : PB W b A N c toks a o) : ∃ g off t, A = some ⟨g, off, none⟩ ∧ toks[a]? = some t ∧ t ∈ toks ∧ hd (toks.drop a) = t ∧ (toks.drop a).tail = toks.drop (a + 1) ∧
    W.cell? ⟨g, off + a * 4, none⟩ = some (.int .i64 t.kd) ∧ W.cell? ⟨g, off + (a * 4 + 1), none⟩ = some (.int .i64 t.at_) ∧ W.cell? ⟨g, off + (a * 4 + 2), none⟩ = some (.string ⟨t.tx.toArray⟩) ∧ W.cell? ⟨g, off + (a * 4 + 3), none⟩ = some (.int .i64 t.nm) := by
  obtain ⟨g, off, e, hg, hc⟩ := h.tok.2 (by have := h.at_; omega)
  have hl := h.len
  have hat := h.at_
  obtain ⟨t, ht⟩ : ∃ t, toks[a]? = some t := ⟨_, List.getElem?_eq_getElem (by omega)⟩
  have hcc := hc a t ht
  refine ⟨g, off, t, e, ht, List.mem_of_getElem? ht, ?_, by rw [List.tail_drop], ?_, hcc 1 _ rfl, hcc 2 _ rfl, hcc 3 _ rfl⟩
  · unfold hd
    rw [List.headD_eq_head?_getD, List.head?_drop, ht]; rfl
  · have := hcc 0 _ rfl
    rwa [Nat.add_zero] at this
/-- A token with a text is not the last one. -/
theorem PB.more {W : World} {b : Nat} {A : Option Addr} {N c : Nat} {toks : List Tk} {a o : Nat} (h : PB W b A N c toks a o) {t : Tk} (ht : toks[a]? = some t) (hk : t.kd ≠ 0) : a + 1 < N := by
  obtain ⟨ts, k, e, _⟩ := h.wf
  have hl := h.len
  have ha := (List.getElem?_eq_some_iff.1 ht).1
  by_cases h1 : a + 1 < N
  · exact h1
  · exfalso
    have h2 : a = ts.length := by rw [hl, e] at h1; rw [e] at ha; simp at h1 ha; omega
    rw [e, h2] at ht
    simp at ht
    rw [← ht] at hk
    exact hk rfl
theorem PB.lts {W : World} {b : Nat} {A : Option Addr} {N c : Nat} {toks : List Tk} {a o : Nat} (h : PB W b A N c toks a o) : ∀ x, A = some x → x.block < W.heap.size := fun x hx => by
  obtain ⟨g, off, e, hg, _⟩ := h.tok.2 (by have := h.at_; omega)
  rw [e] at hx
  injection hx with hx
  rw [← hx]; exact hg
theorem PB.keep {W W' : World} {b : Nat} {A : Option Addr} {N c : Nat} {toks : List Tk} {a o : Nat} (h : PB W b A N c toks a o) (n : Nat) (hb : b < n) (hA : ∀ x, A = some x → x.block < n) (hk : ∀ k, k < n → W'.heap[k]? = W.heap[k]?) : PB W' b A N c toks a o :=
  ⟨(hk b hb).trans h.blk, h.tok.blocks fun x hx _ => hk _ (hA x hx), h.wf, h.old, h.at_, by
    obtain ⟨m, hm⟩ := h.ml
    exact ⟨m, by rw [World.cell?_of_block (a := ⟨0, 0, none⟩) (hk 0 (by omega))]; exact hm⟩, h.b0, h.nb, h.sz⟩
/-- A store into a block that the method has made. -/
theorem PB.setNew {W W' : World} {b : Nat} {A : Option Addr} {N c : Nat} {toks : List Tk} {a o a0 o0 : Nat} (h0 : PB W b A N c toks a0 o0) (h : PB W' b A N c toks a o) {p : Addr} (hp : W.heap.size ≤ p.block) (u : Value) : PB (W'.setCell p u) b A N c toks a o :=
  h.keep W.heap.size h0.lt h0.lts fun k hk => heap_setCell_other W' p k u (by omega)
theorem Mv.setNew {b : Nat} {W W' : World} (h : Mv b W W') {p : Addr} (hp : W.heap.size ≤ p.block) (u : Value) : Mv b W (W'.setCell p u) :=
  ⟨by simpa using h.size, fun k h1 h2 => (heap_setCell_other W' p k u (by omega)).trans (h.keep k h1 h2), fun w0 h1 h2 => (h.ext w0 h1 h2).setCell (p := p) (Nat.le_trans h2.lt hp) u⟩
def failV (r : List Tk) (e : Int) : Value := .iface 96 (.agg #[.int .i64 (hd r).at_, .int .i64 e])
/-- How a method of the parser ends that reads α: R says what it hands back. -/
def GP {α : Type} (b : Nat) (A : Option Addr) (N c : Nat) (toks : List Tk) (a o : Nat) (R : World → α → Value → Prop) (W : World) (res : PR α) (e : Ending) (W' : World) : Prop :=
  match res with
  | .ok x r => ∃ v a', e = .returned v ∧ R W' x v ∧ a ≤ a' ∧ r = toks.drop a' ∧ PB W' b A N c toks a' o ∧ Mv b W W'
  | .bad r er => ∃ a' o', e = .panicked [{ v := failV r er, recovered := false }] ∧ a ≤ a' ∧ r = toks.drop a' ∧ PB W' b A N c toks a' o' ∧ Mv b W W'
end Go.Proofs.YtnpenepdechkjaaGreatDoor

/- The production's small readers: next, fail, take, must. -/
namespace Go.Proofs.YtnpenepdechkjaaGreatDoor
open Go Go.RowKit

abbrev bs (l : List UInt8) : ByteArray := ⟨l.toArray⟩
theorem pnext_any {W : World} {b : Nat} {A : Option Addr} {N c : Nat} {toks : List Tk} {a o : Nat} (h : PB W b A N c toks a o) (S : ByteArray) (hS : S = bs (hd (toks.drop a)).tx) :
    Calls Tryz.prog 77 #[.pointer (some ⟨b, 0, none⟩)] W (fun e W' => e = .returned (.string S) ∧ Ext W W') := by
  obtain ⟨g, off, t, rfl, _, _, h4, _, k0, k1, k2, k3⟩ := h.tk
  rw [h4] at hS
  have c0 := h.c0
  have c1 := h.c1
  have haI : (a : Int) < (N : Int) := by have := h.at_; omega
  have HS := Lib.hid hS
  have k2' : W.cell? ⟨g, off + a * 4 + 2, none⟩ = some (.string S) := by rw [hS, Nat.add_assoc]; exact k2
  clear hS h4 k0 k1 k2 k3 h
  go_enter Tryz.func77, Tryz.ntmps77
  go_upto_region 1 with (fail)
  go_quiet (fail)
  go_wp2
  go_ret
  exact ⟨rfl, (Ext.refl _).drewN _⟩
set_option maxRecDepth 100000 in
theorem pfail_any {W : World} {b : Nat} {A : Option Addr} {N c : Nat} {toks : List Tk} {a o : Nat} (h : PB W b A N c toks a o) (er : Int) :
    Calls Tryz.prog 73 #[.pointer (some ⟨b, 0, none⟩), .int .i64 er] W (fun e W' => e = .panicked [{ v := failV (toks.drop a) er, recovered := false }] ∧ Ext W W') := by
  obtain ⟨g, off, t, rfl, _, _, h4, _, k0, k1, k2, k3⟩ := h.tk
  unfold failV
  rw [h4]
  have c0 := h.c0
  have c1 := h.c1
  have haI : (a : Int) < (N : Int) := by have := h.at_; omega
  rw [← Nat.add_assoc] at k1
  clear h4 k0 k2 k3 h
  go_enter Tryz.func73, Tryz.ntmps73
  go_upto_region 0 with (fail)
  go_still_tail 14, (by kernel_rfl)
  go_wp2
  exact ⟨rfl, rfl, (Ext.refl _).drew⟩
/-- What a test of two texts yields. -/
theorem bs_list (x : List UInt8) : (bs x).toList = x := by rw [ByteArray.toList_eq]
theorem bs_eq {x y : List UInt8} {X Y : ByteArray} (hX : X = bs x) (hY : Y = bs y) (h : x = y) : (X.toList == Y.toList) = true := by rw [hX, hY, h]; simp
theorem bs_ne {x y : List UInt8} {X Y : ByteArray} (hX : X = bs x) (hY : Y = bs y) (h : x ≠ y) : (X.toList == Y.toList) = false := by
  rw [hX, hY, bs_list, bs_list]; simpa using h
theorem hd_mem {W : World} {b : Nat} {A : Option Addr} {N c : Nat} {toks : List Tk} {a o : Nat} (h : PB W b A N c toks a o) : hd (toks.drop a) ∈ toks ∧ toks[a]? = some (hd (toks.drop a)) ∧ (toks.drop a).tail = toks.drop (a + 1) := by
  obtain ⟨g, off, t, _, h2, h3, h4, h5, _⟩ := h.tk
  rw [h4]; exact ⟨h3, h2, h5⟩
/-- What is read goes on behind a token. -/
theorem PB.go {W : World} {b : Nat} {A : Option Addr} {N c : Nat} {toks : List Tk} {a o : Nat} (h : PB W b A N c toks a o) (hk : (hd (toks.drop a)).kd ≠ 0) : a + 1 < N := h.more (hd_mem h).2.1 hk
theorem PB.txne {W : World} {b : Nat} {A : Option Addr} {N c : Nat} {toks : List Tk} {a o : Nat} (h : PB W b A N c toks a o) {s : List UInt8} (hx : (hd (toks.drop a)).tx = s) (hs : s ≠ []) : (hd (toks.drop a)).kd ≠ 0 := h.wf.kd0 (hd_mem h).1 (by rw [hx]; exact hs)
theorem ptake_yes {W : World} {b : Nat} {A : Option Addr} {N c : Nat} {toks : List Tk} {a o : Nat} (h : PB W b A N c toks a o) (s : List UInt8) (S : ByteArray) (hS : S = bs s) (hs : s ≠ []) (hx : (hd (toks.drop a)).tx = s) :
    Calls Tryz.prog 117 #[.pointer (some ⟨b, 0, none⟩), .string S] W (fun e W' => e = .returned (.bool true) ∧ PB W' b A N c toks (a + 1) o ∧ Mv b W W') := by
  obtain ⟨T, hT⟩ : ∃ T, T = bs (hd (toks.drop a)).tx := ⟨_, rfl⟩
  have HN := Lib.hid (pnext_any h T hT)
  have hne := bs_eq hT hS hx
  have hgo := h.go (h.txne hx hs)
  have HP := Lib.hid h
  have haI : (a : Int) ≤ 100000 := by have := h.nb; omega
  clear hS hT hx hs h
  go_enter Tryz.func117, Tryz.ntmps117
  go_upto_region 3 with (first | (go_at_call 77; refine (HN.out).mono ?_; rintro e w1 ⟨rfl, hx⟩))
  have c1 := (HP.out.ext hx).c1
  have f1 := (HP.out.ext hx).fz 1
  have HX := Lib.hid hx
  clear hx
  go_wp2
  go_ret
  exact ⟨rfl, by simpa using (HP.out.ext HX.out).set1 (a + 1) hgo, (Mv.of_ext HX.out).trans (Mv.set _)⟩
theorem ptake_no {W : World} {b : Nat} {A : Option Addr} {N c : Nat} {toks : List Tk} {a o : Nat} (h : PB W b A N c toks a o) (s : List UInt8) (S : ByteArray) (hS : S = bs s) (hx : (hd (toks.drop a)).tx ≠ s) :
    Calls Tryz.prog 117 #[.pointer (some ⟨b, 0, none⟩), .string S] W (fun e W' => e = .returned (.bool false) ∧ Ext W W') := by
  obtain ⟨T, hT⟩ : ∃ T, T = bs (hd (toks.drop a)).tx := ⟨_, rfl⟩
  have HN := Lib.hid (pnext_any h T hT)
  have hne := bs_ne hT hS hx
  clear hS hT hx h
  go_enter Tryz.func117, Tryz.ntmps117
  go_wp2_with (first | (go_at_call 77; refine (HN.out).mono ?_; rintro e w1 ⟨rfl, hx⟩))
  go_ret
  exact ⟨rfl, hx⟩
theorem pmust_yes {W : World} {b : Nat} {A : Option Addr} {N c : Nat} {toks : List Tk} {a o : Nat} (h : PB W b A N c toks a o) (s : List UInt8) (S : ByteArray) (hS : S = bs s) (hs : s ≠ []) (hx : (hd (toks.drop a)).tx = s) :
    Calls Tryz.prog 74 #[.pointer (some ⟨b, 0, none⟩), .string S] W (fun e W' => e = .returned (.tuple #[]) ∧ PB W' b A N c toks (a + 1) o ∧ Mv b W W') := by
  have HT := Lib.hid (ptake_yes h s S hS hs hx)
  clear hS hx hs h
  go_enter Tryz.func74, Tryz.ntmps74
  go_wp2_with (first | (go_at_call 117; refine (HT.out).mono ?_; rintro e w1 ⟨rfl, hp, hm⟩))
  go_end0
  exact ⟨rfl, hp, hm⟩
theorem pmust_no {W : World} {b : Nat} {A : Option Addr} {N c : Nat} {toks : List Tk} {a o : Nat} (h : PB W b A N c toks a o) (s : List UInt8) (S : ByteArray) (hS : S = bs s) (hx : (hd (toks.drop a)).tx ≠ s) :
    Calls Tryz.prog 74 #[.pointer (some ⟨b, 0, none⟩), .string S] W (fun e W' => e = .panicked [{ v := failV (toks.drop a) 20, recovered := false }] ∧ Ext W W') := by
  have HT := Lib.hid (ptake_no h s S hS hx)
  have HF := Lib.hid (fun X (hX : Ext W X) => pfail_any (h.ext hX) 20)
  clear hS hx h
  go_enter Tryz.func74, Tryz.ntmps74
  go_wp2_with (first | (go_at_call 117; refine (HT.out).mono ?_; rintro e w1 ⟨rfl, hx⟩) | (go_at_call 73; refine (HF.out _ hx).mono ?_; rintro e w2 ⟨rfl, hx2⟩))
  exact ⟨rfl, rfl, hx.trans hx2⟩
end Go.Proofs.YtnpenepdechkjaaGreatDoor

/- The production's readers: within, token, name, opens, closes, levelOf, arguments. -/
namespace Go.Proofs.YtnpenepdechkjaaGreatDoor
open Go Go.RowKit

theorem fieldTx (x0 x1 x3 : Value) (s : ByteArray) (w : World) : (Instr.field 46 (.agg #[x0, x1, .string s, x3]) 2).run Tryz.prog w = .ok (.string s) w := by simp [Instr.field, go_sem, asAgg]
theorem pad_list (x : List UInt8) : ((⟨#[32]⟩ : ByteArray) ++ bs x ++ ⟨#[32]⟩).data.toList = 32 :: (x ++ [32]) := by
  rw [ByteArray.data_append, ByteArray.data_append]; simp
/-- A list of words, of which none is empty or holds a blank. -/
def WL (ws : List (List UInt8)) : Prop := ∀ w ∈ ws, (32 : UInt8) ∉ w
theorem pwithin_any (L T : ByteArray) (ws : List (List UInt8)) (x : List UInt8) (hL : L = bs (Jw ws)) (hL3 : (Jw ws).length ≤ 1000) (hT : T = bs x) (hx : (32 : UInt8) ∉ x) (hxs : x.length ≤ 100000) (hws : WL ws) (v : Bool) (hv : v = decide (x ≠ [] ∧ x ∈ ws)) (W : World) (hm : ∃ m : Int, W.cell? ⟨0, 0, none⟩ = some (.int .i64 m)) :
    Calls Tryz.prog 118 #[.string L, .string T] W (fun e W' => e = .returned (.bool v) ∧ Ext W W') := by
  obtain ⟨m, hm⟩ := hm
  have hL2 : L.size ≤ 1000 := by rw [hL]; simpa [ByteArray.size] using hL3
  by_cases h0 : x = []
  · have hb : (T.toList == ([] : List UInt8)) = true := by rw [hT, bs_list, h0]; rfl
    have hv' : v = false := by rw [hv, h0]; simp
    subst hv'
    have hTe : T = ⟨#[]⟩ := by rw [hT, h0]
    subst hTe
    clear hT hx h0 hv hL
    go_enter Tryz.func118, Tryz.ntmps118
    go_wp2
    go_ret
    exact ⟨rfl, Ext.refl _⟩
  · have hb : (T.toList == ([] : List UInt8)) = false := by rw [hT, bs_list]; simpa using h0
    obtain ⟨U, hU⟩ : ∃ U, U = (⟨#[32]⟩ : ByteArray) ++ T ++ ⟨#[32]⟩ := ⟨_, rfl⟩
    have hsz : T.size = x.length := by rw [hT]; simp [ByteArray.size]
    have HC := Lib.hid (fun X (hX : X.cell? ⟨0, 0, none⟩ = some (.int .i64 m)) => (show Calls Tryz.prog 156 #[.string L, .string ((⟨#[32]⟩ : ByteArray) ++ T ++ ⟨#[32]⟩)] X (fun e X' => e = .returned (.bool v) ∧ X' = X) from by
      rw [← hU]
      have h1 := Tryz.strings_Contains L U m X (by omega) hX
      have h2 : Lib.contains L.data.toList U.data.toList = v := by
        rw [hU, hT, pad_list, hL]
        have : (bs (Jw ws)).data.toList = Jw ws := by simp
        rw [this, contains_J x hx h0 ws hws, hv]
        simp [h0]
      rw [h2] at h1; exact h1))
    have h1 : ¬ 9223372036854775807 < 1 + T.size := by omega
    have h2 : ¬ 9223372036854775807 < 1 + T.size + 1 := by omega
    have HU := Lib.hid hU
    clear hT hx hU hL hv h0
    go_enter Tryz.func118, Tryz.ntmps118
    go_wp2_with (first | (go_at_call 156; refine (HC.out _ hm).mono ?_; rintro e w1 ⟨rfl, rfl⟩))
    go_ret
    exact ⟨rfl, Ext.refl _⟩
theorem ptok_yes {W : World} {b : Nat} {A : Option Addr} {N c : Nat} {toks : List Tk} {a o : Nat} (h : PB W b A N c toks a o) (k : Int) (hk0 : k ≠ 0) (t : Tk) (ht : hd (toks.drop a) = t) (hk : t.kd = k) :
    Calls Tryz.prog 76 #[.pointer (some ⟨b, 0, none⟩), .int .i64 k] W (fun e W' => e = .returned (.agg #[.int .i64 t.kd, .int .i64 t.at_, .string (bs t.tx), .int .i64 t.nm]) ∧ PB W' b A N c toks (a + 1) o ∧ Mv b W W') := by
  have hgo := h.go (by rw [ht, hk]; exact hk0)
  have HP := Lib.hid h
  obtain ⟨g, off, t', rfl, _, _, h4, _, k0, k1, k2, k3⟩ := h.tk
  rw [ht] at h4
  subst h4
  have hlt := h.lt
  obtain ⟨kd, at_, tx, nm⟩ := t
  simp only at hk k0 k1 k2 k3 ⊢
  subst hk
  obtain ⟨S, hS⟩ : ∃ S, S = bs tx := ⟨_, rfl⟩
  have k2 : W.cell? ⟨g, off + (a * 4 + 2), none⟩ = some (.string S) := by rw [hS]; exact k2
  rw [← hS]
  rw [← Nat.add_assoc] at k1 k2 k3
  have hg : g < W.heap.size := block_lt_of_cell k0
  have HX := Lib.hid ((Ext.refl W).alloc (.cells #[.int .i64 0, .int .i64 0, .string ⟨#[]⟩, .int .i64 0] 46))
  have c0 := (HP.out.ext HX.out).c0
  have c1 := (HP.out.ext HX.out).c1
  have e0 := (HX.out.cells.1 g (off + a * 4) hg).trans k0
  have e1 := (HX.out.cells.1 g (off + a * 4 + 1) hg).trans k1
  have e2 := (HX.out.cells.1 g (off + a * 4 + 2) hg).trans k2
  have e3 := (HX.out.cells.1 g (off + a * 4 + 3) hg).trans k3
  have haI : (a : Int) < (N : Int) := by have := h.at_; omega
  have haJ : (a : Int) ≤ 100000 := by have := h.nb; omega
  clear h ht k0 k1 k2 k3 hS
  go_enter Tryz.func76, Tryz.ntmps76
  go_upto_region 1 with (fail)
  have q := TBox.new W 0 0 0 ⟨#[]⟩ 46
  have hlt1 : b < (W.alloc (.cells #[.int .i64 0, .int .i64 0, .string ⟨#[]⟩, .int .i64 0] 46)).heap.size := (HP.out.ext HX.out).lt
  have f1 := (HP.out.ext HX.out).fz 1
  have hne4 : ¬ b = W.heap.size := by omega
  have hg4 : W.heap.size ≤ W.heap.size := Nat.le_refl _
  have hm0 : ∀ X, Ext W X → Mv b W X := fun X hX => Mv.of_ext hX
  have hg1 : g < (W.alloc (.cells #[.int .i64 0, .int .i64 0, .string ⟨#[]⟩, .int .i64 0] 46)).heap.size := Nat.lt_of_lt_of_le hg HX.out.lt
  generalize W.alloc (.cells #[.int .i64 0, .int .i64 0, .string ⟨#[]⟩, .int .i64 0] 46) = w1 at *
  obtain ⟨g4, hg5⟩ : ∃ g4, g4 = W.heap.size := ⟨_, rfl⟩
  have HG4 := Lib.hid hg5
  rw [← hg5] at q hne4 ⊢
  clear hg4 hm0
  rw [← hg5] at hlt hg
  clear hg5
  go_cut [5] (fun s5 wx => s5 = .pointer (some ⟨w1.heap.size, 0, none⟩) ∧ wx = w1.drew.alloc (.cells #[.int .i64 kd, .int .i64 at_, .string S, .int .i64 nm] 46))
  case first =>
    go_region
    all_goals
      go_wp2
      go_meet
      case rel => exact ⟨rfl, rfl⟩
  case rest =>
    obtain ⟨rfl, hwc⟩ := hcut
    have hx5 : Ext w1 wc := by rw [hwc]; exact (Ext.refl _).drew.alloc _
    have q4 := q.ext hx5
    have q5 : TBox wc w1.heap.size kd at_ S nm := by rw [hwc]; exact TBox.new w1.drew kd at_ nm S 46
    have HP5 := Lib.hid ((HP.out.ext HX.out).ext hx5)
    have HYtnpenepdechkjaaGreatDoor := Lib.hid (HX.out.trans hx5)
    have hne5 : ¬ b = w1.heap.size := by omega
    have hne45 : ¬ g4 = w1.heap.size := by have := q.lt; omega
    clear q hwc hx5 c0 c1 e0 e1 e2 e3 f1 hlt1 hg1 HX
    generalize w1.heap.size = g5 at *
    obtain ⟨_, a0, a1, a2, a3, b0, b1, b2, b3⟩ := q4
    obtain ⟨_, d0, d1, d2, d3, _, _, _, _⟩ := q5
    have c1 := HP5.out.c1
    have f1 := HP5.out.fz 1
    go_wp2
    refine bodyPost_ret (v := .agg #[.int .i64 kd, .int .i64 at_, .string S, .int .i64 nm]) (by simp [results, Tryz.results76, go_sem, *]) rfl ?_
    have hg4 : W.heap.size ≤ g4 := Nat.le_of_eq HG4.out.symm
    have h1 := HP5.out.set1 (a + 1) hgo
    rw [show (((a + 1 : Nat) : Int)) = (a : Int) + 1 by omega] at h1
    exact ⟨rfl, HP.out.setNew (HP.out.setNew (HP.out.setNew (HP.out.setNew h1 (p := ⟨g4, 0, none⟩) hg4 _) (p := ⟨g4, 1, none⟩) hg4 _) (p := ⟨g4, 2, none⟩) hg4 _) (p := ⟨g4, 3, none⟩) hg4 _,
      (((((Mv.of_ext HYtnpenepdechkjaaGreatDoor.out).trans (Mv.set _)).setNew (p := ⟨g4, 0, none⟩) hg4 _).setNew (p := ⟨g4, 1, none⟩) hg4 _).setNew (p := ⟨g4, 2, none⟩) hg4 _).setNew (p := ⟨g4, 3, none⟩) hg4 _⟩
end Go.Proofs.YtnpenepdechkjaaGreatDoor

/- The production's readers: token that fails, name, opens, closes, levelOf, arguments. -/
namespace Go.Proofs.YtnpenepdechkjaaGreatDoor
open Go Go.RowKit

theorem ptok_no {W : World} {b : Nat} {A : Option Addr} {N c : Nat} {toks : List Tk} {a o : Nat} (h : PB W b A N c toks a o) (k : Int) (hk : (hd (toks.drop a)).kd ≠ k) :
    Calls Tryz.prog 76 #[.pointer (some ⟨b, 0, none⟩), .int .i64 k] W (fun e W' => e = .panicked [{ v := failV (toks.drop a) 20, recovered := false }] ∧ Ext W W') := by
  have HP := Lib.hid h
  obtain ⟨g, off, t, rfl, _, _, h4, _, k0, k1, k2, k3⟩ := h.tk
  have HF := Lib.hid (fun X (hX : Ext W X) => pfail_any (h.ext hX) 20)
  rw [h4] at hk
  have hkb : (t.kd == k) = false := by simpa using hk
  obtain ⟨kd, at_, tx, nm⟩ := t
  simp only at hk hkb k0 k1 k2 k3
  obtain ⟨S, hS⟩ : ∃ S, S = bs tx := ⟨_, rfl⟩
  have k2 : W.cell? ⟨g, off + (a * 4 + 2), none⟩ = some (.string S) := by rw [hS]; exact k2
  rw [← Nat.add_assoc] at k1 k2 k3
  have hg : g < W.heap.size := block_lt_of_cell k0
  have HX := Lib.hid ((Ext.refl W).alloc (.cells #[.int .i64 0, .int .i64 0, .string ⟨#[]⟩, .int .i64 0] 46))
  have c0 := (HP.out.ext HX.out).c0
  have c1 := (HP.out.ext HX.out).c1
  have e0 := (HX.out.cells.1 g (off + a * 4) hg).trans k0
  have e1 := (HX.out.cells.1 g (off + a * 4 + 1) hg).trans k1
  have e2 := (HX.out.cells.1 g (off + a * 4 + 2) hg).trans k2
  have e3 := (HX.out.cells.1 g (off + a * 4 + 3) hg).trans k3
  have haI : (a : Int) < (N : Int) := by have := h.at_; omega
  clear h h4 k0 k1 k2 k3 hS hk
  go_enter Tryz.func76, Tryz.ntmps76
  go_upto_region 1 with (fail)
  have hlt1 : b < (W.alloc (.cells #[.int .i64 0, .int .i64 0, .string ⟨#[]⟩, .int .i64 0] 46)).heap.size := (HP.out.ext HX.out).lt
  have hg1 : g < (W.alloc (.cells #[.int .i64 0, .int .i64 0, .string ⟨#[]⟩, .int .i64 0] 46)).heap.size := Nat.lt_of_lt_of_le hg HX.out.lt
  generalize W.alloc (.cells #[.int .i64 0, .int .i64 0, .string ⟨#[]⟩, .int .i64 0] 46) = w1 at *
  generalize W.heap.size = g4 at *
  go_cut [5] (fun s5 wx => s5 = .pointer (some ⟨w1.heap.size, 0, none⟩) ∧ wx = w1.drew.alloc (.cells #[.int .i64 kd, .int .i64 at_, .string S, .int .i64 nm] 46))
  case first =>
    go_region
    all_goals
      go_wp2
      go_meet
      case rel => exact ⟨rfl, rfl⟩
  case rest =>
    obtain ⟨rfl, hwc⟩ := hcut
    have hx5 : Ext w1 wc := by rw [hwc]; exact (Ext.refl _).drew.alloc _
    have q5 : TBox wc w1.heap.size kd at_ S nm := by rw [hwc]; exact TBox.new w1.drew kd at_ nm S 46
    have HYtnpenepdechkjaaGreatDoor := Lib.hid (HX.out.trans hx5)
    clear hwc hx5 c0 c1 e0 e1 e2 e3 HX
    generalize w1.heap.size = g5 at *
    obtain ⟨_, d0, d1, d2, d3, _, _, _, _⟩ := q5
    go_wp2_with (first | (go_at_call 73; refine (HF.out _ HYtnpenepdechkjaaGreatDoor.out).mono ?_; rintro e w2 ⟨rfl, hx2⟩))
    exact ⟨rfl, rfl, HYtnpenepdechkjaaGreatDoor.out.trans hx2⟩
/-- The list of the reserved words as the program has it. -/
def resC : List (List UInt8) := words ++ ([] :: (units ++ ([] :: (fields ++ ([] :: functions)))))
theorem resC_iff (x : List UInt8) : (x ≠ [] ∧ x ∈ resC) ↔ x ∈ reserved := by
  unfold resC reserved
  simp only [List.mem_append, List.mem_cons]
  constructor
  · rintro ⟨h0, h1⟩
    rcases h1 with h1 | h1 | h1 | h1 | h1 | h1 | h1
    · exact .inl h1
    · exact absurd h1 h0
    · exact .inr (.inl h1)
    · exact absurd h1 h0
    · exact .inr (.inr (.inl h1))
    · exact absurd h1 h0
    · exact .inr (.inr (.inr h1))
  · intro h1
    refine ⟨fun e => ?_, ?_⟩
    · subst e
      rcases h1 with h1 | h1 | h1 | h1 <;> revert h1 <;> decide
    · rcases h1 with h1 | h1 | h1 | h1
      · exact .inl h1
      · exact .inr (.inr (.inl h1))
      · exact .inr (.inr (.inr (.inr (.inl h1))))
      · exact .inr (.inr (.inr (.inr (.inr (.inr h1)))))
theorem wl_res : WL resC := by unfold WL; decide
theorem wl_units : WL units := by unfold WL; decide
theorem wl_fields : WL fields := by unfold WL; decide
theorem wl_functions : WL functions := by unfold WL; decide
theorem jw_res : (Jw resC).length ≤ 1000 := by decide +kernel
theorem jw_units : (Jw units).length ≤ 1000 := by decide +kernel
theorem jw_fields : (Jw fields).length ≤ 1000 := by decide +kernel
theorem jw_functions : (Jw functions).length ≤ 1000 := by decide +kernel
theorem PB.tx32 {W : World} {b : Nat} {A : Option Addr} {N c : Nat} {toks : List Tk} {a o : Nat} (h : PB W b A N c toks a o) : (32 : UInt8) ∉ (hd (toks.drop a)).tx ∧ (hd (toks.drop a)).tx.length ≤ 100000 := ⟨h.wf.no32 (hd_mem h).1, h.sz _ (hd_mem h).1⟩
/-- Is the next word one of a list? -/
theorem pin_any {W : World} {b : Nat} {A : Option Addr} {N c : Nat} {toks : List Tk} {a o : Nat} (h : PB W b A N c toks a o) (T : ByteArray) (hT : T = bs (hd (toks.drop a)).tx) (ws : List (List UInt8)) (hws : WL ws) (v : Bool) (hv : v = decide ((hd (toks.drop a)).tx ≠ [] ∧ (hd (toks.drop a)).tx ∈ ws)) (L : ByteArray) (hL : L = bs (Jw ws)) (hL2 : (Jw ws).length ≤ 1000) :
    Calls Tryz.prog 118 #[.string L, .string T] W (fun e W' => e = .returned (.bool v) ∧ Ext W W') :=
  pwithin_any L T ws _ hL hL2 hT h.tx32.1 h.tx32.2 hws v hv W h.ml
set_option maxRecDepth 100000 in
theorem pname_any {W : World} {b : Nat} {A : Option Addr} {N c : Nat} {toks : List Tk} {a o : Nat} (h : PB W b A N c toks a o) :
    Calls Tryz.prog 75 #[.pointer (some ⟨b, 0, none⟩)] W (GP b A N c toks a o (fun _ x v => v = .string (bs x)) W (nameP (toks.drop a))) := by
  have HP := Lib.hid h
  obtain ⟨t, ht⟩ : ∃ t, hd (toks.drop a) = t := ⟨_, rfl⟩
  obtain ⟨T, hT⟩ : ∃ T, T = bs t.tx := ⟨_, rfl⟩
  have HN := Lib.hid (pnext_any h T (by rw [ht]; exact hT))
  have htl := (hd_mem h).2.2
  unfold nameP tokP
  rw [ht]
  by_cases hr : t.tx ∈ reserved
  · rw [if_pos hr]
    have HW := Lib.hid (fun X (hX : Ext W X) L hL => pin_any (h.ext hX) T (by rw [ht]; exact hT) resC wl_res true (by rw [ht]; exact (decide_eq_true ((resC_iff _).2 hr)).symm) L hL jw_res)
    have HF := Lib.hid (fun X (hX : Ext W X) => pfail_any (h.ext hX) 20)
    clear h ht hT htl hr
    go_enter Tryz.func75, Tryz.ntmps75
    go_wp2_with (first
      | (go_at_call 77; refine (HN.out).mono ?_; rintro e w1 ⟨rfl, hx1⟩)
      | (go_at_call 118; refine (HW.out _ hx1 _ (by kernel_rfl)).mono ?_; rintro e w2 ⟨rfl, hx2⟩)
      | (go_at_call 73; refine (HF.out _ (hx1.trans hx2)).mono ?_; rintro e w3 ⟨rfl, hx3⟩))
    exact ⟨rfl, a, o, rfl, Nat.le_refl _, rfl, HP.out.ext ((hx1.trans hx2).trans hx3), Mv.of_ext ((hx1.trans hx2).trans hx3)⟩
  · rw [if_neg hr]
    have HW := Lib.hid (fun X (hX : Ext W X) L hL => pin_any (h.ext hX) T (by rw [ht]; exact hT) resC wl_res false (by rw [ht]; exact (decide_eq_false (fun h9 => hr ((resC_iff _).1 h9))).symm) L hL jw_res)
    by_cases hk : t.kd = 1
    · rw [if_pos hk]
      have HK := Lib.hid (fun X (hX : Ext W X) => ptok_yes (h.ext hX) 1 (by decide) t ht hk)
      rw [htl, PR.bind_ok]
      have hfd := fieldTx
      clear h ht hT htl hr hk
      go_enter Tryz.func75, Tryz.ntmps75
      go_wp2_with (first
        | (go_at_call 77; refine (HN.out).mono ?_; rintro e w1 ⟨rfl, hx1⟩)
        | (go_at_call 118; refine (HW.out _ hx1 _ (by kernel_rfl)).mono ?_; rintro e w2 ⟨rfl, hx2⟩)
        | (go_at_call 76; refine (HK.out _ (hx1.trans hx2)).mono ?_; rintro e w3 ⟨rfl, hp3, hm3⟩))
      go_ret
      exact ⟨_, a + 1, rfl, rfl, by omega, rfl, hp3, (Mv.of_ext (hx1.trans hx2)).trans hm3⟩
    · rw [if_neg hk]
      have HK := Lib.hid (fun X (hX : Ext W X) => ptok_no (h.ext hX) 1 (by rw [ht]; exact hk))
      rw [PR.bind_bad]
      clear h ht hT htl hr hk
      go_enter Tryz.func75, Tryz.ntmps75
      go_wp2_with (first
        | (go_at_call 77; refine (HN.out).mono ?_; rintro e w1 ⟨rfl, hx1⟩)
        | (go_at_call 118; refine (HW.out _ hx1 _ (by kernel_rfl)).mono ?_; rintro e w2 ⟨rfl, hx2⟩)
        | (go_at_call 76; refine (HK.out _ (hx1.trans hx2)).mono ?_; rintro e w3 ⟨rfl, hx3⟩))
      exact ⟨rfl, a, o, rfl, Nat.le_refl _, rfl, HP.out.ext ((hx1.trans hx2).trans hx3), Mv.of_ext ((hx1.trans hx2).trans hx3)⟩
theorem popens_any {W : World} {b : Nat} {A : Option Addr} {N c : Nat} {toks : List Tk} {a o : Nat} (h : PB W b A N c toks a o) (ho : o ≤ 12) (s : List UInt8) (S : ByteArray) (hS : S = bs s) (hs : s ≠ []) :
    Calls Tryz.prog 127 #[.pointer (some ⟨b, 0, none⟩), .string S] W (GP b A N c toks a (o + 1) (fun _ _ v => v = .tuple #[]) W (opensP s o (toks.drop a))) := by
  have HP := Lib.hid h
  obtain ⟨T, hT⟩ : ∃ T, T = bs (hd (toks.drop a)).tx := ⟨_, rfl⟩
  have HN := Lib.hid (pnext_any h T hT)
  have htl := (hd_mem h).2.2
  have HF := Lib.hid (fun X (hX : Ext W X) er => pfail_any (h.ext hX) er)
  unfold opensP
  by_cases hx : (hd (toks.drop a)).tx = s
  · rw [if_pos hx]
    have hb := bs_eq hT hS hx
    have hgo := h.go (h.txne hx hs)
    have haI : (a : Int) ≤ 100000 := by have := h.nb; have := h.at_; omega
    have hoI : (o : Int) ≤ 12 := by omega
    by_cases h12 : o = 12
    · rw [if_pos h12]
      have h12I : ((o : Int) == 12) = true := by simp [h12]
      clear h hT hS hx hs htl h12
      go_enter Tryz.func127, Tryz.ntmps127
      go_upto_region 2 with (first | (go_at_call 77; refine (HN.out).mono ?_; rintro e w1 ⟨rfl, hx1⟩))
      have c2 := (HP.out.ext hx1).c2
      go_wp2_with (first | (go_at_call 73; refine (HF.out _ hx1 2).mono ?_; rintro e w2 ⟨rfl, hx2⟩))
      exact ⟨rfl, a, o, rfl, Nat.le_refl _, rfl, HP.out.ext (hx1.trans hx2), Mv.of_ext (hx1.trans hx2)⟩
    · rw [if_neg h12, htl]
      have h12I : ((o : Int) == 12) = false := by simpa using (show ¬ (o : Int) = 12 by omega)
      clear h hT hS hx hs htl h12
      go_enter Tryz.func127, Tryz.ntmps127
      go_upto_region 2 with (first | (go_at_call 77; refine (HN.out).mono ?_; rintro e w1 ⟨rfl, hx1⟩))
      have c1 := (HP.out.ext hx1).c1
      have c2 := (HP.out.ext hx1).c2
      have f1 := (HP.out.ext hx1).fz 1
      have f2 := (HP.out.ext hx1).fz 2
      have HX1 := Lib.hid hx1
      clear hx1
      go_wp2
      go_end0
      exact ⟨_, a + 1, rfl, rfl, by omega, rfl, by simpa using ((HP.out.ext HX1.out).set1 (a + 1) hgo).set2 (o + 1), ((Mv.of_ext HX1.out).trans (Mv.set _)).trans (Mv.set _)⟩
  · rw [if_neg hx]
    have hb := bs_ne hT hS hx
    clear h hT hS hx hs htl
    go_enter Tryz.func127, Tryz.ntmps127
    go_wp2_with (first
      | (go_at_call 77; refine (HN.out).mono ?_; rintro e w1 ⟨rfl, hx1⟩)
      | (go_at_call 73; refine (HF.out _ hx1 20).mono ?_; rintro e w2 ⟨rfl, hx2⟩))
    exact ⟨rfl, a, o, rfl, Nat.le_refl _, rfl, HP.out.ext (hx1.trans hx2), Mv.of_ext (hx1.trans hx2)⟩
end Go.Proofs.YtnpenepdechkjaaGreatDoor

/- The production's readers: closes, levelOf, arguments. -/
namespace Go.Proofs.YtnpenepdechkjaaGreatDoor
open Go Go.RowKit

theorem pmust_any {W : World} {b : Nat} {A : Option Addr} {N c : Nat} {toks : List Tk} {a o : Nat} (h : PB W b A N c toks a o) (s : List UInt8) (S : ByteArray) (hS : S = bs s) (hs : s ≠ []) :
    Calls Tryz.prog 74 #[.pointer (some ⟨b, 0, none⟩), .string S] W (GP b A N c toks a o (fun _ _ v => v = .tuple #[]) W (mustP s (toks.drop a))) := by
  unfold mustP
  by_cases hx : (hd (toks.drop a)).tx = s
  · rw [if_pos hx, (hd_mem h).2.2]
    refine (pmust_yes h s S hS hs hx).mono ?_
    rintro e W' ⟨rfl, hp, hm⟩
    exact ⟨_, a + 1, rfl, rfl, by omega, rfl, hp, hm⟩
  · rw [if_neg hx]
    refine (pmust_no h s S hS hx).mono ?_
    rintro e W' ⟨rfl, hm⟩
    exact ⟨a, o, rfl, Nat.le_refl _, rfl, h.ext hm, Mv.of_ext hm⟩
theorem pcloses_any {W : World} {b : Nat} {A : Option Addr} {N c : Nat} {toks : List Tk} {a o : Nat} (h : PB W b A N c toks a (o + 1)) (ho : o ≤ 12) (s : List UInt8) (S : ByteArray) (hS : S = bs s) (hs : s ≠ []) :
    Calls Tryz.prog 159 #[.pointer (some ⟨b, 0, none⟩), .string S] W (GP b A N c toks a o (fun _ _ v => v = .tuple #[]) W (mustP s (toks.drop a))) := by
  have HM := Lib.hid (pmust_any h s S hS hs)
  have hoI : (o : Int) ≤ 12 := by omega
  cases hr : mustP s (toks.drop a) with
  | bad r er =>
    rw [hr] at HM
    clear h hS hs hr
    go_enter Tryz.func159, Tryz.ntmps159
    go_wp2_with (first | (go_at_call 74; refine (HM.out).mono ?_; rintro e w1 ⟨a', o', rfl, ha, hr, hp, hm⟩; have HR := Lib.hid hr; clear hr))
    exact ⟨rfl, a', o', rfl, ha, HR.out, hp, hm⟩
  | ok u r =>
    rw [hr] at HM
    clear h hS hs hr
    go_enter Tryz.func159, Tryz.ntmps159
    go_upto_region 1 with (first | (go_at_call 74; refine (HM.out).mono ?_; rintro e w1 ⟨v, a', rfl, rfl, ha, hr, hp, hm⟩; have HR := Lib.hid hr; clear hr))
    have HP := Lib.hid hp
    have c2 := hp.c2
    have f2 := hp.fz 2
    have hw : IntKind.i64.wrap (((o + 1 : Nat) : Int) - 1) = (o : Int) := by rw [IntWalk.i64_in _ (by omega)]; omega
    rw [show ((o + 1 : Nat) : Int) = (o : Int) + 1 by omega] at c2 hw
    clear hp
    go_wp2
    go_end0
    exact ⟨_, a', rfl, rfl, ha, HR.out, HP.out.set2 o, hm.trans (Mv.set _)⟩
set_option maxRecDepth 100000 in
theorem plevel_any (x : List UInt8) (T : ByteArray) (hT : T = bs x) (W : World) : Calls Tryz.prog 106 #[.string T] W (fun e W' => e = .returned (.int .i64 (lvOf x : Nat)) ∧ Ext W W') := by
  by_cases n0 : x = wOr
  · have hv : lvOf x = 1 := by rw [n0]; decide
    have hTe : T = ⟨#[111, 114]⟩ := by rw [hT, n0]; rfl
    rw [hv]
    subst hTe
    clear hT n0 hv
    go_enter Tryz.func106, Tryz.ntmps106
    go_wp2
    go_ret
    exact ⟨rfl, Ext.refl _⟩
  by_cases n1 : x = wAnd
  · have hv : lvOf x = 2 := by rw [n1]; decide
    have hTe : T = ⟨#[97, 110, 100]⟩ := by rw [hT, n1]; rfl
    rw [hv]
    subst hTe
    clear hT n1 hv n0
    go_enter Tryz.func106, Tryz.ntmps106
    go_wp2
    go_ret
    exact ⟨rfl, Ext.refl _⟩
  by_cases n2 : x = wLt
  · have hv : lvOf x = 4 := by rw [n2]; decide
    have hTe : T = ⟨#[60]⟩ := by rw [hT, n2]; rfl
    rw [hv]
    subst hTe
    clear hT n2 hv n0 n1
    go_enter Tryz.func106, Tryz.ntmps106
    go_wp2
    go_ret
    exact ⟨rfl, Ext.refl _⟩
  by_cases n3 : x = wLe
  · have hv : lvOf x = 4 := by rw [n3]; decide
    have hTe : T = ⟨#[60, 61]⟩ := by rw [hT, n3]; rfl
    rw [hv]
    subst hTe
    clear hT n3 hv n0 n1 n2
    go_enter Tryz.func106, Tryz.ntmps106
    go_wp2
    go_ret
    exact ⟨rfl, Ext.refl _⟩
  by_cases n4 : x = wEq
  · have hv : lvOf x = 4 := by rw [n4]; decide
    have hTe : T = ⟨#[61]⟩ := by rw [hT, n4]; rfl
    rw [hv]
    subst hTe
    clear hT n4 hv n0 n1 n2 n3
    go_enter Tryz.func106, Tryz.ntmps106
    go_wp2
    go_ret
    exact ⟨rfl, Ext.refl _⟩
  by_cases n5 : x = wNe
  · have hv : lvOf x = 4 := by rw [n5]; decide
    have hTe : T = ⟨#[33, 61]⟩ := by rw [hT, n5]; rfl
    rw [hv]
    subst hTe
    clear hT n5 hv n0 n1 n2 n3 n4
    go_enter Tryz.func106, Tryz.ntmps106
    go_wp2
    go_ret
    exact ⟨rfl, Ext.refl _⟩
  by_cases n6 : x = wGt
  · have hv : lvOf x = 4 := by rw [n6]; decide
    have hTe : T = ⟨#[62]⟩ := by rw [hT, n6]; rfl
    rw [hv]
    subst hTe
    clear hT n6 hv n0 n1 n2 n3 n4 n5
    go_enter Tryz.func106, Tryz.ntmps106
    go_wp2
    go_ret
    exact ⟨rfl, Ext.refl _⟩
  by_cases n7 : x = wGe
  · have hv : lvOf x = 4 := by rw [n7]; decide
    have hTe : T = ⟨#[62, 61]⟩ := by rw [hT, n7]; rfl
    rw [hv]
    subst hTe
    clear hT n7 hv n0 n1 n2 n3 n4 n5 n6
    go_enter Tryz.func106, Tryz.ntmps106
    go_wp2
    go_ret
    exact ⟨rfl, Ext.refl _⟩
  by_cases n8 : x = wPlus
  · have hv : lvOf x = 5 := by rw [n8]; decide
    have hTe : T = ⟨#[43]⟩ := by rw [hT, n8]; rfl
    rw [hv]
    subst hTe
    clear hT n8 hv n0 n1 n2 n3 n4 n5 n6 n7
    go_enter Tryz.func106, Tryz.ntmps106
    go_wp2
    go_ret
    exact ⟨rfl, Ext.refl _⟩
  by_cases n9 : x = wMinus
  · have hv : lvOf x = 5 := by rw [n9]; decide
    have hTe : T = ⟨#[45]⟩ := by rw [hT, n9]; rfl
    rw [hv]
    subst hTe
    clear hT n9 hv n0 n1 n2 n3 n4 n5 n6 n7 n8
    go_enter Tryz.func106, Tryz.ntmps106
    go_wp2
    go_ret
    exact ⟨rfl, Ext.refl _⟩
  by_cases n10 : x = wStar
  · have hv : lvOf x = 6 := by rw [n10]; decide
    have hTe : T = ⟨#[42]⟩ := by rw [hT, n10]; rfl
    rw [hv]
    subst hTe
    clear hT n10 hv n0 n1 n2 n3 n4 n5 n6 n7 n8 n9
    go_enter Tryz.func106, Tryz.ntmps106
    go_wp2
    go_ret
    exact ⟨rfl, Ext.refl _⟩
  have hc : x ∉ cmpOps := fun h => by
      simp only [cmpOps, List.mem_cons, List.not_mem_nil, or_false] at h
      rcases h with h | h | h | h | h | h
      · exact n2 h
      · exact n3 h
      · exact n4 h
      · exact n5 h
      · exact n6 h
      · exact n7 h
  have hv : lvOf x = 0 := by
    unfold lvOf
    rw [if_neg n0, if_neg n1, if_neg hc, if_neg (by rintro (h | h); exact n8 h; exact n9 h), if_neg n10]
  have q0 : (T.toList == [111, 114]) = false := by rw [hT, bs_list]; exact beq_eq_false_iff_ne.2 n0
  have q1 : (T.toList == [97, 110, 100]) = false := by rw [hT, bs_list]; exact beq_eq_false_iff_ne.2 n1
  have q2 : (T.toList == [60]) = false := by rw [hT, bs_list]; exact beq_eq_false_iff_ne.2 n2
  have q3 : (T.toList == [60, 61]) = false := by rw [hT, bs_list]; exact beq_eq_false_iff_ne.2 n3
  have q4 : (T.toList == [61]) = false := by rw [hT, bs_list]; exact beq_eq_false_iff_ne.2 n4
  have q5 : (T.toList == [33, 61]) = false := by rw [hT, bs_list]; exact beq_eq_false_iff_ne.2 n5
  have q6 : (T.toList == [62]) = false := by rw [hT, bs_list]; exact beq_eq_false_iff_ne.2 n6
  have q7 : (T.toList == [62, 61]) = false := by rw [hT, bs_list]; exact beq_eq_false_iff_ne.2 n7
  have q8 : (T.toList == [43]) = false := by rw [hT, bs_list]; exact beq_eq_false_iff_ne.2 n8
  have q9 : (T.toList == [45]) = false := by rw [hT, bs_list]; exact beq_eq_false_iff_ne.2 n9
  have q10 : (T.toList == [42]) = false := by rw [hT, bs_list]; exact beq_eq_false_iff_ne.2 n10
  rw [hv]
  clear hT hv hc n0 n1 n2 n3 n4 n5 n6 n7 n8 n9 n10
  go_enter Tryz.func106, Tryz.ntmps106
  go_wp2
  go_ret
  exact ⟨rfl, Ext.refl _⟩
set_option maxRecDepth 100000 in
theorem pargs_any (x : List UInt8) (T : ByteArray) (hT : T = bs x) (W : World) : Calls Tryz.prog 181 #[.string T] W (fun e W' => e = .returned (.int .i64 (argsN x : Nat)) ∧ Ext W W') := by
  by_cases n0 : x = wNext
  · have hv : argsN x = 1 := by rw [n0]; decide
    have hTe : T = ⟨#[110, 101, 120, 116]⟩ := by rw [hT, n0]; rfl
    rw [hv]
    subst hTe
    clear hT n0 hv
    go_enter Tryz.func181, Tryz.ntmps181
    go_wp2
    go_ret
    exact ⟨rfl, Ext.refl _⟩
  by_cases n1 : x = wPrev
  · have hv : argsN x = 1 := by rw [n1]; decide
    have hTe : T = ⟨#[112, 114, 101, 118]⟩ := by rw [hT, n1]; rfl
    rw [hv]
    subst hTe
    clear hT n1 hv n0
    go_enter Tryz.func181, Tryz.ntmps181
    go_wp2
    go_ret
    exact ⟨rfl, Ext.refl _⟩
  have hv : argsN x = 2 := by unfold argsN; rw [if_neg (by rintro (h | h); exact n0 h; exact n1 h)]
  have q0 : (T.toList == [110, 101, 120, 116]) = false := by rw [hT, bs_list]; exact beq_eq_false_iff_ne.2 n0
  have q1 : (T.toList == [112, 114, 101, 118]) = false := by rw [hT, bs_list]; exact beq_eq_false_iff_ne.2 n1
  rw [hv]
  clear hT hv n0 n1
  go_enter Tryz.func181, Tryz.ntmps181
  go_wp2
  go_ret
  exact ⟨rfl, Ext.refl _⟩
end Go.Proofs.YtnpenepdechkjaaGreatDoor

/- Rows of kids. -/
namespace Go.Proofs.YtnpenepdechkjaaGreatDoor
open Go Go.RowKit

theorem info31 : (Tryz.prog.info? 31).map (fun i => (i.zero, i.size, i.bytes)) = some (some (.agg #[.int .i64 0, .int .i64 0, .string ⟨#[]⟩, .slice none 0 0]), 4, 56) := by kernel_rfl
theorem ownBlock_of {v : Value} {k n : Nat} (h : v.ownBlock ≠ some k) (a : Nat) : v ≠ .slice (some ⟨k, 0, none⟩) n a := fun e => h (by rw [e]; rfl)
/-- A row of kids that the method has made: what the kids hold lies in other blocks; neither is the block av. -/
def KR (W : World) (base av : Nat) (v : Value) (hs : List Nd) (ts : List Tr) : Prop :=
  OL ndcf 4 W base 31 v hs ∧ hs.length = ts.length ∧ v.ownBlock ≠ some av ∧ ∀ (i : Nat) (h : Nd) (t : Tr), hs[i]? = some h → ts[i]? = some t → Rep W (fun k => base ≤ k ∧ v.ownBlock ≠ some k ∧ k ≠ av) h t
theorem KR.lt {W : World} {base av : Nat} {v : Value} {hs : List Nd} {ts : List Tr} (h : KR W base av v hs ts) : ∀ k, v.ownBlock = some k → base ≤ k ∧ k < W.heap.size := World.ownsRow.lt h.1
theorem KR.nil (W : World) (base av : Nat) : KR W base av (.slice none 0 0) [] [] := ⟨OL.nil W base 31, rfl, by simp [Value.ownBlock], fun i h t hh => by simp at hh⟩
theorem OL.keepB {α : Type} {cf : α → List Value} {sz : Nat} {w w' : World} {B : Nat} {e : TypeId} {v : Value} {l : List α} (h : OL cf sz w B e v l) (hk : ∀ k, v.ownBlock = some k → w'.heap[k]? = w.heap[k]?) : OL cf sz w' B e v l := by
  refine ⟨h.1, ?_⟩
  rcases h.2 with h2 | ⟨g, cap, cur, h1, h2, h3, h4⟩
  · exact .inl h2
  · exact .inr ⟨g, cap, cur, h1, h2, by rw [hk g (by rw [h1]; rfl)]; exact h3, h4⟩
theorem KR.keep {W W' : World} {base av : Nat} {v : Value} {hs : List Nd} {ts : List Tr} (h : KR W base av v hs ts) (hsz : W.heap.size ≤ W'.heap.size) (hk : ∀ k, base ≤ k → k ≠ av → k < W.heap.size → W'.heap[k]? = W.heap[k]?) : KR W' base av v hs ts :=
  ⟨OL.keepB h.1 fun k hk' => hk k (h.lt k hk').1 (fun e => h.2.2.1 (by rw [hk', e])) (h.lt k hk').2, h.2.1, h.2.2.1, fun i d t h1 h2 => (h.2.2.2 i d t h1 h2).keep hsz (fun k h3 h4 => hk k h3.1 h3.2.2 h4)⟩
theorem KR.mv {W W' : World} {base av b : Nat} {v : Value} {hs : List Nd} {ts : List Tr} (h : KR W base av v hs ts) (hm : Mv b W W') (hb : b < base) : KR W' base av v hs ts :=
  h.keep hm.size fun k h1 _ h3 => hm.keep k (by omega) h3
/-- A literal slice of kids. -/
theorem KR.lit {X : World} {base av : Nat} (ds : List Nd) (ts : List Tr) (cs : Array Value) (hcs : cs.toList = gcells ndcf ds) (hl : ds.length = ts.length) (hn : ds.length ≤ 100) (hd : ∀ (i : Nat) (h : Nd) (t : Tr), ds[i]? = some h → ts[i]? = some t → Rep X (fun k => base ≤ k ∧ k ≠ av) h t) (hb : base ≤ X.heap.size) (hav : av ≠ X.heap.size) : KR (X.alloc (.cells cs 31)) base av (.slice (some ⟨X.heap.size, 0, none⟩) ds.length ds.length) ds ts := by
  have hlen : cs.size = ds.length * 4 := by
    have := congrArg List.length hcs
    rw [gcells_len ndcf_len, Array.length_toList] at this; exact this
  refine ⟨⟨gcells_len ndcf_len ds, .inr ⟨X.heap.size, ds.length, cs, rfl, hb, heap_alloc_new X _, Nat.le_refl _, by simp [maxLen]; omega, hlen, ?_⟩⟩, hl, ?_, fun i h t h1 h2 => ?_⟩
  · rw [hcs, List.take_of_length_le (by rw [gcells_len ndcf_len]; exact Nat.le_refl _)]
  · intro e
    simp only [Value.ownBlock, Option.some.injEq] at e
    exact hav e.symm
  · exact ((hd i h t h1 h2).mono (Q := fun k => base ≤ k ∧ k ≠ av ∧ k < X.heap.size) (fun k h3 h4 => ⟨h3.1, h3.2, h4⟩)).ext ((Ext.refl X).alloc _) |>.mono fun k hk _ => ⟨hk.1, fun e => by
      simp only [Value.ownBlock, Option.some.injEq] at e
      have := hk.2.2; omega, hk.2.1⟩
/-- append of a further kid, that lies in blocks newer than the row. -/
theorem KR.append {W X : World} {base av : Nat} {v : Value} {hs : List Nd} {ts : List Tr} (h : KR X base av v hs ts) (hW : ∀ k, v.ownBlock = some k → k < W.heap.size) (hav : av < W.heap.size) (d : Nd) (t : Tr) (hd : Rep X (fun k => W.heap.size ≤ k) d t) (hbW : base ≤ W.heap.size) (hWX : W.heap.size ≤ X.heap.size) (hn : hs.length ≤ 100) (g : Nat) (hg : g = X.heap.size) :
    ∃ A' c' w', (Builtin.append_ #[29, 29] 29 #[v, .slice (some ⟨g, 0, none⟩) 1 1]).run Tryz.prog (X.alloc (.cells #[.int .i64 d.k, .int .i64 d.n, .string d.s, .slice d.A d.m d.c] 31)) = .ok (.slice A' (hs.length + 1) c') w' ∧
      KR w' base av (.slice A' (hs.length + 1) c') (hs ++ [d]) (ts ++ [t]) ∧ (∀ B, B ≤ base → Below B X w') ∧ (∀ k, k < X.heap.size → v.ownBlock ≠ some k → w'.heap[k]? = X.heap[k]?) ∧ X.heap.size ≤ w'.heap.size ∧ (∀ k, (Value.slice A' (hs.length + 1) c').ownBlock = some k → v.ownBlock = some k ∨ X.heap.size ≤ k) := by
  subst hg
  obtain ⟨Y, hY⟩ : ∃ Y, Y = X.alloc (.cells #[.int .i64 d.k, .int .i64 d.n, .string d.s, .slice d.A d.m d.c] 31) := ⟨_, rfl⟩
  have hXY : Ext X Y := by rw [hY]; exact (Ext.refl X).alloc _
  have hYs : Y.heap.size = X.heap.size + 1 := by rw [hY]; simp
  have hso := SL.one (cf := ndcf) (sz := 4) X d #[.int .i64 d.k, .int .i64 d.n, .string d.s, .slice d.A d.m d.c] rfl 31
  rw [← hY] at hso ⊢
  obtain ⟨_, hs1⟩ := hso
  have hown : OL ndcf 4 Y base 31 v hs := h.1.ext hXY
  obtain ⟨A', c', w', r1, r2, r3, r4, r5⟩ := run_append_src5 (P := Tryz.prog) (t := 29) (e := 31) (size := 4) (bytes := 56) (base := base) Tryz.underlying29 info31 rfl (by omega) hown (A := some ⟨X.heap.size, 0, none⟩) (m := 1) (c := 1) (news := gcells ndcf [d]) (gcells_len ndcf_len [d])
    (fun _ => ⟨X.heap.size, 0, rfl, fun j u hu => by
      obtain ⟨b, off, e, _, hc⟩ := hs1 (by omega)
      simp only [Option.some.injEq, Addr.mk.injEq] at e
      obtain ⟨rfl, rfl, _⟩ := e
      have := hc 0 d rfl j u (by simpa [gcells] using hu)
      simpa using this⟩)
    (gcells_one ndcf_one [d]) (by simp [maxLen]; omega) (by omega) (by omega)
  have hkeep : ∀ k, k < Y.heap.size → v.ownBlock ≠ some k → w'.heap[k]? = Y.heap[k]? := fun k hk hne => r4 k hk (fun a => ownBlock_of hne a)
  have hsz : Y.heap.size ≤ w'.heap.size := (r3 base (Nat.le_refl _)).size
  have hnew : ∀ k, (Value.slice A' (hs.length + 1) c').ownBlock = some k → v.ownBlock = some k ∨ Y.heap.size ≤ k := fun k e => by
    rcases r5 with r5 | r5
    · exact .inl (r5.symm.trans e)
    · rw [r5] at e
      injection e with e; exact .inr (by omega)
  refine ⟨A', c', w', r1, ⟨?_, by simp [h.2.1], fun e => ?_, fun i e t' h1 h2 => ?_⟩, fun B hB => Below.trans (Below.mono hXY (by omega)) (r3 B hB), fun k hk hne => (hkeep k (by omega) hne).trans (hXY.block k hk), by omega, fun k e => by
    rcases hnew k e with h1 | h1
    · exact .inl h1
    · exact .inr (by omega)⟩
  · unfold OL
    rw [List.length_append, gcells_append]
    exact r2
  · rcases hnew av e with h1 | h1
    · exact h.2.2.1 h1
    · omega
  · rw [List.getElem?_append] at h1 h2
    rw [h.2.1] at h1
    split at h1
    · next hi =>
      rw [if_pos hi] at h2
      have h3 := (h.2.2.2 i e t' h1 h2).ext hXY
      exact ((h3.mono (Q := fun k => base ≤ k ∧ v.ownBlock ≠ some k ∧ k ≠ av ∧ k < Y.heap.size) (fun k h5 h6 => ⟨h5.1, h5.2.1, h5.2.2, h6⟩)).keep hsz (fun k hk hl => hkeep k hl hk.2.1)).mono fun k hk _ => ⟨hk.1, fun e => by
        rcases hnew k e with h7 | h7
        · exact hk.2.1 h7
        · have := hk.2.2.2; omega, hk.2.2.1⟩
    · next hi =>
      rw [if_neg hi] at h2
      have h5 : i - ts.length = 0 := by
        have := (List.getElem?_eq_some_iff.1 h1).1
        simpa using this
      rw [h5] at h1 h2
      simp only [List.getElem?_cons_zero, Option.some.injEq] at h1 h2
      subst h1 h2
      have h3 := hd.ext hXY
      exact ((h3.mono (Q := fun k => W.heap.size ≤ k ∧ k < Y.heap.size) (fun k h5 h6 => ⟨h5, h6⟩)).keep hsz (fun k hk hl => hkeep k hl (fun e => by have := hW k e; omega))).mono fun k hk _ => ⟨Nat.le_trans hbW hk.1, fun e => by
        rcases hnew k e with h7 | h7
        · have := hW k h7; have := hk.1; omega
        · have := hk.2; omega, by have := hk.1; omega⟩
/-- The node over a row of kids. -/
theorem KR.rep {W : World} {base av : Nat} {v : Value} {hs : List Nd} {ts : List Tr} (h : KR W base av v hs ts) (k n : Int) (s : List UInt8) : ∃ A c, v = .slice A hs.length c ∧ Rep W (fun k => base ≤ k ∧ k ≠ av) ⟨k, n, ⟨s.toArray⟩, A, hs.length, c⟩ (.nd k n s ts) := by
  obtain ⟨A, c, e, _, hs1⟩ := OL.form ndcf_len h.1
  refine ⟨A, c, e, .mk k n s A c hs ts (fun x hx => ?_) hs1 h.2.1 fun i d t h1 h2 => (h.2.2.2 i d t h1 h2).mono fun k hk _ => ⟨hk.1, hk.2.2⟩⟩
  have := h.lt x.block (by rw [e, hx]; rfl)
  exact ⟨⟨this.1, fun e9 => h.2.2.1 (by rw [e, hx, ← e9]; rfl)⟩, this.2⟩
/-- What append leaves as it was. -/
theorem Mv.grow {b base : Nat} {W X X' : World} {v : Value} (h : Mv b W X) (hb : b < W.heap.size) (hW : W.heap.size ≤ base) (hbel : ∀ B, B ≤ base → Below B X X') (hkeep : ∀ k, k < X.heap.size → v.ownBlock ≠ some k → X'.heap[k]? = X.heap[k]?) (hown : ∀ k, v.ownBlock = some k → base ≤ k) (hsz : X.heap.size ≤ X'.heap.size) : Mv b W X' :=
  ⟨Nat.le_trans h.size hsz, fun k h1 h2 => (hkeep k (Nat.lt_of_lt_of_le h2 h.size) (fun e => by have := hown k e; omega)).trans (h.keep k h1 h2), fun w0 h1 h2 => Below.trans (h.ext w0 h1 h2) (hbel _ (by omega))⟩
/-- A node in a block of its own. -/
structure NB (W : World) (g : Nat) (k n : Int) (S : ByteArray) (v : Value) : Prop where
  lt : g < W.heap.size
  c0 : W.cell? ⟨g, 0, none⟩ = some (.int .i64 k)
  c1 : W.cell? ⟨g, 1, none⟩ = some (.int .i64 n)
  c2 : W.cell? ⟨g, 2, none⟩ = some (.string S)
  c3 : W.cell? ⟨g, 3, none⟩ = some v
  f0 : W.frozen? ⟨g, 0, none⟩ = false
  f1 : W.frozen? ⟨g, 1, none⟩ = false
  f2 : W.frozen? ⟨g, 2, none⟩ = false
  f3 : W.frozen? ⟨g, 3, none⟩ = false
theorem NB.of_block {W : World} {g : Nat} {k n : Int} {S : ByteArray} {v : Value} (h : W.heap[g]? = some (.cells #[.int .i64 k, .int .i64 n, .string S, v] 31 (0, 0))) : NB W g k n S v :=
  ⟨lt_of_block h, by rw [cell_of_row W _ _ _ 31 (0, 0) h]; rfl, by rw [cell_of_row W _ _ _ 31 (0, 0) h]; rfl, by rw [cell_of_row W _ _ _ 31 (0, 0) h]; rfl, by rw [cell_of_row W _ _ _ 31 (0, 0) h]; rfl, frozen_of_row W _ _ _ 31 h, frozen_of_row W _ _ _ 31 h, frozen_of_row W _ _ _ 31 h, frozen_of_row W _ _ _ 31 h⟩
end Go.Proofs.YtnpenepdechkjaaGreatDoor

/- A region that draws its order, where a load may be taken first although an operation at the region's end writes its cell: two conditions on the world, T behind every operation, S behind those outside E. -/
namespace Go.Proofs.YtnpenepdechkjaaGreatDoor
open Go
section
variable {P : Program} {ops : Array Oper} {Q : Exit → Act → World → Prop} {md : Region.Mode} {S T : World → Prop} {E : Nat → Bool}

def CondE (S T : World → Prop) (E : Nat → Bool) (j : Nat) (w : World) : Prop := (E j = false → S w) ∧ T w
def wpE (P : Program) (md : Region.Mode) (ops : Array Oper) (Q : Exit → Act → World → Prop) (S T : World → Prop) (E : Nat → Bool) : Nat → Array Bool → Act → World → Prop
  | 0, l, a, w => Region.ready md ops l = [] ∧ Q .normal a w
  | n + 1, l, a, w => (Region.ready md ops l = [] → Q .normal a w) ∧ ∀ i ∈ Region.ready md ops l, wpOp P ops Q i (fun a' w' => CondE S T E i w' ∧ wpE P md ops Q S T E n (l.setIfInBounds i true) a' w') a w

theorem wpE_any : ∀ (n : Nat) (l : Array Bool) (a : Act) (w : World), wpE P md ops Q S T E n l a w → wpAny P md ops Q n l a w
  | 0, _, _, _, h => h
  | n + 1, _, _, _, h => ⟨h.1, fun i hi => wpOp_mono (fun _ _ g => wpE_any n _ _ _ g.2) (h.2 i hi)⟩

/-- No operation but i itself stands before i. -/
def Later (md : Region.Mode) (oj : Oper) (i : Nat) : Prop := ∀ e ∈ oj.after, Region.binds md e = true → e.on ≠ i
theorem wpE_first {U : World → Prop} {i : Nat} {oi : Oper} {v : Value} (hi : ops[i]? = some oi) (hsel : ∀ (j : Nat) (o : Oper) cs b, ops[j]? = some o → o.op ≠ .select cs b)
    (hQ : ∀ c a w, Q (.panic c) (a.put oi.dst v) w → Q (.panic c) a w) (hUC : ∀ w, U w → T w → CondE S T E i w) :
    ∀ (n : Nat) (l : Array Bool) (a : Act) (w : World),
      (∀ j oj, ops[j]? = some oj → j ≠ i → l.getD j true = false → Later md oj i → oi.apart ops oj = true ∧ ∀ w', CondE S T E j w' → U w') →
      i ∈ Region.ready md ops l → YieldsIf P ops U oi v a → U w → T w →
      wpE P md ops Q S T E n (l.setIfInBounds i true) (a.put oi.dst v) w → wpE P md ops Q S T E (n + 1) l a w := by
  intro n
  induction n with
  | zero =>
    intro l a w _ hr hy hU hC H
    refine ⟨fun h => absurd hr (by rw [h]; simp), fun j hj => ?_⟩
    by_cases e : j = i
    · subst e; exact hy.wpOp hi hU ⟨hUC _ hU hC, H⟩
    · exact absurd (ready_mono hj e) (by rw [H.1]; simp)
  | succ n ih =>
    intro l a w hf hr hy hU hC H
    refine ⟨fun h => absurd hr (by rw [h]; simp), fun j hj => ?_⟩
    by_cases e : j = i
    · subst e; exact hy.wpOp hi hU ⟨hUC _ hU hC, H⟩
    have hl := (mem_ready.1 hr).1
    obtain ⟨hju, oj, hoj, hall⟩ := mem_ready.1 hj
    have hlate : Later md oj i := fun d hd hb hon => by
      have h1 := hall d hd hb
      rw [hon] at h1
      by_cases hs : i < l.size
      · simp [hs] at hl h1; simp [hl] at h1
      · simp [Array.getElem?_eq_none (Nat.le_of_not_lt hs)] at h1
    obtain ⟨hap, hnext⟩ := hf j oj hoj e hju hlate
    have hmoved := wpOp_putIf hoj hap (fun cs b => hsel i oi cs b hi) (fun cs b => hsel j oj cs b hoj) hQ hy (H.2 j (ready_mono hj e))
    refine wpOp_mono (fun a' w' g => ?_) hmoved
    obtain ⟨g1, g2, g3⟩ := g
    refine ⟨g2, ih _ a' w' (fun k ok hk hki hku hkl => ?_) (ready_mono hr (Ne.symm e)) g1 (hnext w' g2) g2.2 (by rw [Array.setIfInBounds_comm _ _ e]; exact g3)⟩
    refine hf k ok hk hki ?_ hkl
    by_cases ejk : j = k
    · subst ejk; exact hju
    · rwa [getD_set_ne true ejk] at hku

/-- Every operation of E that has not come up yet waits for i. -/
def waitsB (md : Region.Mode) (ops : Array Oper) (l : Array Bool) (E : Nat → Bool) (i : Nat) : Bool :=
  (List.range ops.size).all fun j => !E j || l.getD j true || match ops[j]? with | some oj => oj.after.any (fun e => Region.binds md e && e.on == i) | none => true
theorem waitsB_spec {l : Array Bool} {i j : Nat} {oj : Oper} (h : waitsB md ops l E i = true) (hj : ops[j]? = some oj) (hl : l.getD j true = false) (hno : Later md oj i) : E j = false := by
  unfold waitsB at h
  rw [List.all_eq_true] at h
  have h1 := h j (List.mem_range.2 (Array.getElem?_eq_some_iff.1 hj).1)
  rw [hj, hl] at h1
  cases hE : E j with
  | false => rfl
  | true =>
    rw [hE] at h1
    simp only [Bool.not_true, Bool.or_false, Bool.false_or] at h1
    obtain ⟨e, he, h2⟩ := Array.any_eq_true'.1 h1
    simp only [Bool.and_eq_true, beq_iff_eq] at h2
    exact absurd h2.2 (hno e he h2.1)
/-- Take i first: what it yields hangs on T alone. -/
theorem wpE_takeT {i : Nat} {oi : Oper} {d : Option Tmp} {v : Value} {n : Nat} {l : Array Bool} {a : Act} {w : World} (hi : ops[i]? = some oi) (hd : oi.dst = d)
    (hs : Region.noSelect ops = true) (hf : Region.free md ops l i = true) (hr : (Region.ready md ops l).contains i = true) (hE : E i = true)
    (hQ : ∀ c a w, Q (.panic c) (a.put d v) w → Q (.panic c) a w) (hw : Region.wanted oi (yielded ops a.tmps) = true) (hy : ∀ w, T w → (execOp a.eval oi).run P w = .ok (.value v) w) (hT : T w)
    (h : wpE P md ops Q S T E n (l.setIfInBounds i true) (a.put d v) w) : wpE P md ops Q S T E (n + 1) l a w := by
  subst hd
  exact wpE_first (U := T) hi (Region.noSelect_spec hs) hQ (fun _ _ hT => ⟨fun h => absurd (hE.symm.trans h) (by simp), hT⟩) n l a w (fun j oj hj hne hun hno => ⟨Region.free_spec hi hf j oj hj hne hun hno, fun w' hC => hC.2⟩) (by simpa using hr) (.inl ⟨hw, hy⟩) hT hT h
/-- Take i first: what it yields hangs on S. -/
theorem wpE_takeS {i : Nat} {oi : Oper} {d : Option Tmp} {v : Value} {n : Nat} {l : Array Bool} {a : Act} {w : World} (hi : ops[i]? = some oi) (hd : oi.dst = d)
    (hs : Region.noSelect ops = true) (hf : Region.free md ops l i = true) (hr : (Region.ready md ops l).contains i = true) (hE : waitsB md ops l E i = true)
    (hQ : ∀ c a w, Q (.panic c) (a.put d v) w → Q (.panic c) a w) (hw : Region.wanted oi (yielded ops a.tmps) = true) (hy : ∀ w, S w → (execOp a.eval oi).run P w = .ok (.value v) w) (hS : S w) (hT : T w)
    (h : wpE P md ops Q S T E n (l.setIfInBounds i true) (a.put d v) w) : wpE P md ops Q S T E (n + 1) l a w := by
  subst hd
  exact wpE_first (U := S) hi (Region.noSelect_spec hs) hQ (fun _ hS hT => ⟨fun _ => hS, hT⟩) n l a w (fun j oj hj hne hun hno => ⟨Region.free_spec hi hf j oj hj hne hun hno, fun w' hC => hC.1 (waitsB_spec hE hj hun hno)⟩) (by simpa using hr) (.inl ⟨hw, hy⟩) hS hT h
def AllE (P : Program) (md : Region.Mode) (ops : Array Oper) (Q : Exit → Act → World → Prop) (S T : World → Prop) (E : Nat → Bool) (n : Nat) (l : Array Bool) (a : Act) (w : World) (rs : List Nat) : Prop :=
  ∀ i ∈ rs, wpOp P ops Q i (fun a' w' => CondE S T E i w' ∧ wpE P md ops Q S T E n (l.setIfInBounds i true) a' w') a w
theorem wpE_all {rs : List Nat} {n : Nat} {l : Array Bool} {a : Act} {w : World} (hr : Region.ready md ops l = rs) (hne : rs ≠ []) (h : AllE P md ops Q S T E n l a w rs) : wpE P md ops Q S T E (n + 1) l a w :=
  ⟨fun h0 => absurd (hr ▸ h0) hne, hr ▸ h⟩
theorem AllE.nil {n : Nat} {l : Array Bool} {a : Act} {w : World} : AllE P md ops Q S T E n l a w [] := fun i hi => by cases hi
/-- What follows the operation i, shut: 'out' opens it. -/
structure NextE (P : Program) (md : Region.Mode) (ops : Array Oper) (Q : Exit → Act → World → Prop) (S T : World → Prop) (E : Nat → Bool) (n : Nat) (l : Array Bool) (i : Nat) (K : Act → World → Prop) : Prop where
  out : ∀ a w, CondE S T E i w → (CondE S T E i w → wpE P md ops Q S T E n (l.setIfInBounds i true) a w) → K a w
theorem AllE.cons {n : Nat} {l : Array Bool} {a : Act} {w : World} {i : Nat} {o : Oper} {rs : List Nat} (ho : ops[i]? = some o)
    (h : ∀ K : Act → World → Prop, NextE P md ops Q S T E n l i K → if Region.wanted o (yielded ops a.tmps) = true then Oper.wp P o a w K Q else K (a.put o.dst undef) w)
    (hs : AllE P md ops Q S T E n l a w rs) : AllE P md ops Q S T E n l a w (i :: rs) := fun j hj => by
  rcases List.mem_cons.1 hj with e | e
  · subst e
    exact wpOp_step ho fun K hK => h K ⟨fun a w hC hN => hK a w ⟨hC, hN hC⟩⟩
  · exact hs j e
theorem wpE_done {l : Array Bool} {a : Act} {w : World} (hr : Region.ready md ops l = []) (h : Q .normal a w) : ∀ n, wpE P md ops Q S T E n l a w
  | 0 => ⟨hr, h⟩
  | _ + 1 => ⟨fun _ => h, by rw [hr]; simp⟩
theorem wp_region_E {id : Nat} {a : Act} {w : World} (S T : World → Prop) (E : Nat → Bool) (hm : P.follows .mixedOrders = true) (h : wpE P .any ops Q S T E ops.size (Array.replicate ops.size false) a w.drew) : (Code.region id ops true).wp P Q a w :=
  wp_region_any hm (wpE_any _ _ _ _ h)
end
end Go.Proofs.YtnpenepdechkjaaGreatDoor

/- The production's choice. -/
namespace Go.Proofs.YtnpenepdechkjaaGreatDoor
open Go Go.RowKit

/-- A node in a block of its own, whole. -/
def NX (W : World) (g : Nat) (k n : Int) (S : ByteArray) (v : Value) : Prop := W.heap[g]? = some (.cells #[.int .i64 k, .int .i64 n, .string S, v] 31 (0, 0))
theorem NX.mv {W W' : World} {b g : Nat} {k n : Int} {S : ByteArray} {v : Value} (h : NX W g k n S v) (hm : Mv b W W') (hg : g ≠ b) : NX W' g k n S v := (hm.keep g hg (lt_of_block h)).trans h
theorem NX.nb {W : World} {g : Nat} {k n : Int} {S : ByteArray} {v : Value} (h : NX W g k n S v) : NB W g k n S v := NB.of_block h
def RT (base : Nat) (W : World) (t : Tr) (v : Value) : Prop := ∃ d : Nd, v = .agg #[.int .i64 d.k, .int .i64 d.n, .string d.s, .slice d.A d.m d.c] ∧ Rep W (fun k => base ≤ k) d t
/-- What is known of expr, called with less to read. -/
def EC (E : Nat → Nat → List Tk → PR Tr) (M : Nat) : Prop := ∀ (W : World) (b : Nat) (A : Option Addr) (N c : Nat) (toks : List Tk) (a o lv : Nat), PB W b A N c toks a o → o ≤ 12 → 1 ≤ lv → lv ≤ 8 → 9 * (N - a) + (8 - lv) < M →
  Calls Tryz.prog 87 #[.pointer (some ⟨b, 0, none⟩), .int .i64 (lv : Int)] W (GP b A N c toks a o (RT W.heap.size) W (E lv o (toks.drop a)))
theorem opens_ok {s : List UInt8} {o : Nat} {r r1 : List Tk} {u : Unit} (h : opensP s o r = .ok u r1) : r1 = r.tail ∧ o ≠ 12 ∧ (hd r).tx = s := by
  unfold opensP at h
  split at h
  · split at h
    · cases h
    · injection h with _ h2
      exact ⟨h2.symm, by assumption, by assumption⟩
  · cases h
theorem must_ok {s : List UInt8} {r r1 : List Tk} {u : Unit} (h : mustP s r = .ok u r1) : r1 = r.tail := by
  unfold mustP at h
  split at h
  · injection h with _ h2; exact h2.symm
  · cases h
theorem drop_at {toks : List Tk} {a a' : Nat} (ha : a' < toks.length) (h : (toks.drop a).tail = toks.drop a') : a < a' := by
  rw [List.tail_drop] at h
  have := congrArg List.length h
  simp at this
  omega
theorem step_append_run {P : Program} {w : World} {ops : Array Oper} {o : Oper} {a : Act} {K : Act → World → Prop} {Q : Exit → Act → World → Prop} {E : Prop} {s x : Operand} {t : TypeId} {vs vx v' : Value} {w' : World}
    (hr : (Builtin.append_ #[t, t] t #[vs, vx]).run P w = .ok v' w') (hg : o.guard = none)
    (ho : o.op = .call { callee := .builtin .append, args := #[s, x], argTypes := #[t, t] }) (hty : o.type = t) (hs : a.eval s = vs) (hx : a.eval x = vx)
    (h : K (a.put o.dst v') w') : if Region.wanted o (yielded ops a.tmps) = true then Oper.wp P o a w K Q else E := by
  have hw : Region.wanted o (yielded ops a.tmps) = true := by simp [Region.wanted, hg]
  rw [if_pos hw]
  unfold Oper.wp execOp
  simp only [ho, hty, resolve, invoke, builtin, Sem.run_bind, Sem.run_pure, Result.andThen_ok, List.map_toArray, List.map_cons, List.map_nil, hs, hx, hr]
  exact h
def chR (E : Nat → Nat → List Tk → PR Tr) (o : Nat) : Nat → List Tr → List Tk → PR Tr
  | 0, ts, r => (mustP wThen r).bind fun _ r => (E 1 (o + 1) r).bind fun b r => (mustP wElse r).bind fun _ r => (E 1 (o + 1) r).bind fun c r => (mustP wEnd r).bind fun _ r => .ok (.nd 9 0 [] (ts ++ [b] ++ [c])) r
  | 1, ts, r => (mustP wElse r).bind fun _ r => (E 1 (o + 1) r).bind fun c r => (mustP wEnd r).bind fun _ r => .ok (.nd 9 0 [] (ts ++ [c])) r
  | _ + 2, ts, r => (mustP wEnd r).bind fun _ r => .ok (.nd 9 0 [] ts) r
def chW (k : Nat) : List UInt8 := if k = 0 then wThen else wElse
theorem chR_step (E : Nat → Nat → List Tk → PR Tr) (o k : Nat) (hk : k < 2) (ts : List Tr) (r : List Tk) : chR E o k ts r = (mustP (chW k) r).bind fun _ r => (E 1 (o + 1) r).bind fun b r => chR E o (k + 1) (ts ++ [b]) r := by
  obtain rfl | rfl : k = 0 ∨ k = 1 := by omega
  · rfl
  · rfl
theorem choice_ch (E : Nat → Nat → List Tk → PR Tr) (o : Nat) (r : List Tk) : choiceP E o r = (opensP wIf o r).bind fun _ r => (E 1 (o + 1) r).bind fun a r => chR E o 0 [a] r := rfl
def ChRel (W : World) (b : Nat) (A : Option Addr) (N c : Nat) (toks : List Tk) (a o : Nat) (E : Nat → Nat → List Tk → PR Tr) (RES : PR Tr) (g2 g3 gs : Nat) (s14 : Value) (X : World) : Prop :=
  ∃ (k a' : Nat) (A3 : Option Addr) (c3 : Nat) (hs : List Nd) (ts : List Tr), k ≤ 2 ∧ s14 = .int .i64 k ∧ a < a' ∧ hs.length = k + 1 ∧ PB X b A N c toks a' (o + 1) ∧ NX X g3 9 0 ⟨#[]⟩ (.slice A3 (k + 1) c3) ∧ KR X (W.heap.size + 1) g3 (.slice A3 (k + 1) c3) hs ts ∧
    (∀ j, j < 2 → X.cell? ⟨gs, j, none⟩ = some (.string (bs (chW j)))) ∧ gs < X.heap.size ∧ NX X g2 0 0 ⟨#[]⟩ (.slice none 0 0) ∧ chR E o k ts (toks.drop a') = RES ∧ Mv b W X ∧ (Value.slice A3 (k + 1) c3).ownBlock ≠ some gs
def toM (n : Nat) (v : Value) : Nat := match v with | .int _ z => n - z.toNat | _ => 0
set_option maxHeartbeats 4000000 in
set_option maxRecDepth 100000 in
theorem pchoice_any {E : Nat → Nat → List Tk → PR Tr} {M : Nat} (hE : EC E M) {W : World} {b : Nat} {A : Option Addr} {N c : Nat} {toks : List Tk} {a o : Nat} (h : PB W b A N c toks a o) (ho : o ≤ 12) (hM : 9 * (N - a) ≤ M) :
    Calls Tryz.prog 160 #[.pointer (some ⟨b, 0, none⟩)] W (GP b A N c toks a o (RT W.heap.size) W (choiceP E o (toks.drop a))) := by
  have HP := Lib.hid h
  have HLEN := Lib.hid h.len
  have hx0 : Ext W (W.alloc (.cells #[.int .i64 0, .int .i64 0, .string ⟨#[]⟩, .slice none 0 0] 31)) := (Ext.refl W).alloc _
  have HO := Lib.hid (fun X (hX : Ext W X) => popens_any (h.ext hX) ho wIf ⟨#[105, 102]⟩ rfl (by decide))
  have HX0 := Lib.hid hx0
  rw [choice_ch]
  have hNa : a < N := h.at_
  cases hO : opensP wIf o (toks.drop a) with
  | bad r er =>
    rw [hO] at HO
    rw [PR.bind_bad]
    clear h hx0 hO
    go_enter Tryz.func160, Tryz.ntmps160
    go_wp2_with (first | (go_at_call 127; refine (HO.out _ HX0.out).mono ?_; rintro e w1 ⟨a', o', rfl, ha, hr, hp, hm⟩; have HR := Lib.hid hr; clear hr))
    exact ⟨rfl, a', o', rfl, ha, HR.out, hp, (Mv.of_ext HX0.out).trans hm⟩
  | ok u r1 =>
    rw [hO] at HO
    rw [PR.bind_ok]
    have hO' := opens_ok hO
    have HO1 := Lib.hid hO'.1
    have ho11 : o + 1 ≤ 12 := by have := hO'.2.1; omega
    cases hA : E 1 (o + 1) r1 with
    | bad r er =>
      have HA := Lib.hid hA
      rw [PR.bind_bad]
      clear h hx0 hO hA hO'
      go_enter Tryz.func160, Tryz.ntmps160
      go_wp2_with (first
        | (go_at_call 127; refine (HO.out _ HX0.out).mono ?_; rintro e w1 ⟨v, a1, rfl, rfl, ha, hr, hp, hm⟩; have HR1 := Lib.hid hr; have HP1 := Lib.hid hp; clear hr hp)
        | (go_at_call 87; have h9 := hE w1 b A N c toks a1 (o + 1) 1 HP1.out ho11 (by omega) (by omega) (by have := drop_at (by rw [← HLEN.out]; exact HP1.out.at_) (HO1.out.symm.trans HR1.out); omega); rw [← HR1.out, HA.out] at h9; refine h9.mono ?_; clear h9; rintro e w2 ⟨a2, o2, rfl, ha2, hr2, hp2, hm2⟩; have HR2 := Lib.hid hr2; clear hr2))
      exact ⟨rfl, a2, o2, rfl, Nat.le_trans ha ha2, HR2.out, hp2, ((Mv.of_ext HX0.out).trans hm).trans hm2⟩
    | ok ta r2 =>
      rw [PR.bind_ok]
      have HA := Lib.hid hA
      obtain ⟨RES, hRES⟩ : ∃ R, R = chR E o 0 [ta] r2 := ⟨_, rfl⟩
      have HRS := Lib.hid hRES
      rw [← hRES]
      clear h hx0 hO hA hO' hRES
      go_enter Tryz.func160, Tryz.ntmps160
      go_upto_region 3 with (first
        | (go_at_call 127; refine (HO.out _ HX0.out).mono ?_; rintro e w1 ⟨v, a1, rfl, rfl, ha, hr, hp, hm⟩; have HR1 := Lib.hid hr; have HP1 := Lib.hid hp; clear hr hp)
        | (go_at_call 87; have h9 := hE w1 b A N c toks a1 (o + 1) 1 HP1.out ho11 (by omega) (by omega) (by have := drop_at (by rw [← HLEN.out]; exact HP1.out.at_) (HO1.out.symm.trans HR1.out); omega); rw [← HR1.out, HA.out] at h9; refine h9.mono ?_; clear h9; rintro e w2 ⟨v2, a2, rfl, ⟨d, rfl, hrep⟩, ha2, hr2, hp2, hm2⟩; have HR2 := Lib.hid hr2; have HREP := Lib.hid hrep; clear hr2 hrep))
      have hbW : b < W.heap.size := HP.out.lt
      have h1s : W.heap.size + 1 ≤ w1.heap.size := by have := hm.size; simpa using this
      have hmv := ((Mv.of_ext HX0.out).trans hm).trans hm2
      have hg2 : NX w2 W.heap.size 0 0 ⟨#[]⟩ (.slice none 0 0) := (NX.mv (show NX (W.alloc (.cells #[.int .i64 0, .int .i64 0, .string ⟨#[]⟩, .slice none 0 0] 31)) W.heap.size 0 0 ⟨#[]⟩ (.slice none 0 0) from heap_alloc_new _ _) (hm.trans hm2) (by omega))
      have hk3 := KR.lit (X := w2) (base := W.heap.size + 1) (av := w2.heap.size + 1) [d] [ta] #[.int .i64 d.k, .int .i64 d.n, .string d.s, .slice d.A d.m d.c] rfl rfl (by simp) (fun i e t' h1 h2 => by
        have : i = 0 := by
          have := (List.getElem?_eq_some_iff.1 h1).1
          simpa using this
        subst this
        simp only [List.getElem?_cons_zero, Option.some.injEq] at h1 h2
        subst h1 h2
        exact HREP.out.mono fun k hk hk2 => by omega) (by have := hm2.size; omega) (by omega)
      obtain ⟨w3, hw3⟩ : ∃ w3, w3 = w2.alloc (.cells #[.int .i64 d.k, .int .i64 d.n, .string d.s, .slice d.A d.m d.c] 31) := ⟨_, rfl⟩
      obtain ⟨w4, hw4⟩ : ∃ w4, w4 = w3.alloc (.cells #[.int .i64 9, .int .i64 0, .string ⟨#[]⟩, .slice (some ⟨w2.heap.size, 0, none⟩) 1 1] 31) := ⟨_, rfl⟩
      rw [← hw3] at hk3 ⊢
      have hx3 : Ext w2 w3 := by rw [hw3]; exact (Ext.refl _).alloc _
      have hs3 : w3.heap.size = w2.heap.size + 1 := by rw [hw3]; simp
      have hn3 : NX w4 (w2.heap.size + 1) 9 0 ⟨#[]⟩ (.slice (some ⟨w2.heap.size, 0, none⟩) 1 1) := by
        rw [hw4, ← hs3]; exact heap_alloc_new _ _
      rw [← hw4]
      have hx4 : Ext w3 w4 := by rw [hw4]; exact (Ext.refl _).alloc _
      clear hw3 hw4
      have hx5 : Ext w4 (w4.alloc (.cells #[.string ⟨#[116, 104, 101, 110]⟩, .string ⟨#[101, 108, 115, 101]⟩] 9)) := (Ext.refl _).alloc _
      have hrow : (w4.alloc (.cells #[.string ⟨#[116, 104, 101, 110]⟩, .string ⟨#[101, 108, 115, 101]⟩] 9)).heap[w4.heap.size]? = some (.cells #[.string ⟨#[116, 104, 101, 110]⟩, .string ⟨#[101, 108, 115, 101]⟩] 9 (0, 0)) := heap_alloc_new _ _
      obtain ⟨g2, hg2e⟩ : ∃ g, g = W.heap.size := ⟨_, rfl⟩
      obtain ⟨g3, hg3e⟩ : ∃ g, g = w2.heap.size + 1 := ⟨_, rfl⟩
      have hstart : ChRel W b A N c toks a o E RES g2 g3 w4.heap.size (.int .i64 0) (w4.alloc (.cells #[.string ⟨#[116, 104, 101, 110]⟩, .string ⟨#[101, 108, 115, 101]⟩] 9)) := by
        have hs4 := hx4.lt
        have hm25 : Mv b w2 (w4.alloc (.cells #[.string ⟨#[116, 104, 101, 110]⟩, .string ⟨#[101, 108, 115, 101]⟩] 9)) := Mv.of_ext ((hx3.trans hx4).trans hx5)
        have h2s := hm2.size
        refine ⟨0, a2, some ⟨w2.heap.size, 0, none⟩, 1, [d], [ta], by omega, rfl, ?_, rfl, hp2.ext ((hx3.trans hx4).trans hx5), ?_, ?_, fun j hj => ?_, by simp, ?_, ?_, hmv.trans hm25, ?_⟩
        · have := drop_at (by rw [← HLEN.out]; exact HP1.out.at_) (HO1.out.symm.trans HR1.out); omega
        · rw [hg3e]; exact hn3.mv (Mv.of_ext hx5 : Mv b _ _) (by omega)
        · rw [hg3e]; exact hk3.mv (Mv.of_ext (hx4.trans hx5) : Mv b _ _) (by omega)
        · rw [cell_of_row _ _ _ _ 9 (0, 0) hrow]
          obtain rfl | rfl : j = 0 ∨ j = 1 := by omega
          · rfl
          · rfl
        · rw [hg2e]; exact hg2.mv hm25 (by omega)
        · rw [HRS.out, HR2.out]
        · intro e; simp only [Value.ownBlock, Option.some.injEq] at e; omega
      have HST := Lib.hid hstart
      have HG2 := Lib.hid hg2e
      rw [← hg3e]
      have hg23 : g2 < g3 := by have := hm2.size; omega
      have hg3s : g3 < w4.heap.size := lt_of_block (hg3e ▸ hn3)
      clear hstart hrow hx5 hx4 hs3 hx3 hn3 hk3 hg2 hmv h1s hp2 hm2 HREP HR2 HR1 HP1 hm ha2 ha HA HO1 HO HX0 hg3e HRS
      rw [← hg2e] at hbW
      have hbg2 : b < g2 := hbW
      clear hg2e
      go_wp2_with fail
      go_loopw [14] (fun s14 X => ChRel W b A N c toks a o E RES g2 g3 w4.heap.size s14 X) (fun s14 _ => toM 3 s14)
      case atStart => exact HST.out
      case round =>
        clear HST
        generalize w4.heap.size = gs at *
        obtain ⟨k, a', A3, c3, hs, ts, hk2, rfl, haa, hhl, hpb, hnx, hkr, hstr, hgs, hg2x, hres, hmv, hne4⟩ := hrel
        have HPB := Lib.hid hpb
        have HNX := Lib.hid hnx
        have HKR := Lib.hid hkr
        have HSTR := Lib.hid hstr
        have HG2X := Lib.hid hg2x
        have HMV := Lib.hid hmv
        have HNE4 := Lib.hid hne4
        have HHL := Lib.hid hhl
        have hlen := HLEN.out
        clear hpb hnx hkr hstr hg2x hmv hne4 hhl
        by_cases hk : k < 2
        · have hkI : (k : Int) < 2 := by omega
          rw [chR_step E o k hk] at hres
          obtain ⟨S, hS⟩ : ∃ S, S = bs (chW k) := ⟨_, rfl⟩
          have hcell : wr.cell? ⟨gs, k, none⟩ = some (.string S) := by rw [hS]; exact HSTR.out k hk
          have hSne : chW k ≠ [] := by unfold chW; split <;> decide
          have HMU := Lib.hid (pmust_any HPB.out (chW k) S hS hSne)
          clear hS hSne
          cases hM : mustP (chW k) (toks.drop a') with
          | bad r er =>
            rw [hM] at HMU
            rw [hM, PR.bind_bad] at hres
            subst hres
            clear hM hlen
            go_wp2_with (first | (go_at_call 74; refine (HMU.out).mono ?_; rintro e w5 ⟨a5, o5, rfl, ha5, hr5, hp5, hm5⟩; have HR5 := Lib.hid hr5; clear hr5))
            exact ⟨rfl, a5, o5, rfl, by omega, HR5.out, hp5, HMV.out.trans hm5⟩
          | ok u r1 =>
            rw [hM] at HMU
            rw [hM, PR.bind_ok] at hres
            have HR1 := Lib.hid (must_ok hM)
            clear hM
            cases hB : E 1 (o + 1) r1 with
            | bad r er =>
              rw [hB, PR.bind_bad] at hres
              have HB := Lib.hid hB
              subst hres
              clear hB
              go_upto_region 7 with (first | (go_at_call 74; refine (HMU.out).mono ?_; rintro e w5 ⟨v5, a5, rfl, rfl, ha5, hr5, hp5, hm5⟩; have HR5 := Lib.hid hr5; have HP5 := Lib.hid hp5; clear hr5 hp5))
              have hlt5 : a' < a5 := drop_at (by rw [← HLEN.out]; exact HP5.out.at_) (HR1.out.symm.trans HR5.out)
              have hE5 := hE w5.drew b A N c toks a5 (o + 1) 1 (HP5.out.ext (Ext.refl _).drew) ho11 (by omega) (by omega) (by have := HP5.out.at_; omega)
              rw [← HR5.out, HB.out] at hE5
              have HE5 := Lib.hid hE5
              have HNX5 := Lib.hid (HNX.out.mv hm5 (by omega))
              have e3 := HNX5.out.nb.c3
              clear hE5 hlen
              refine wp_region_E (fun _ => True) (fun X => X.cell? ⟨g3, 3, none⟩ = some (.slice A3 (k + 1) c3)) (fun _ => true) (by kernel_rfl) ?_
              have hT0 : w5.drew.cell? ⟨g3, 3, none⟩ = some (.slice A3 (k + 1) c3) := e3
              refine wpE_takeT (i := 0) (d := some 21) (v := .pointer (some ⟨g3, 3, none⟩)) rfl rfl (by kernel_rfl) (by kernel_rfl) (by kernel_rfl) rfl (fun _ _ _ h => h) (by rfl) ?hy0 hT0 ?go0
              case hy0 =>
                intro w9 hT9
                clear e3
                go_simp
              (try simp only [Act.put, List.setIfInBounds_toArray, List.set_cons_zero, List.set_cons_succ])
              refine wpE_takeT (i := 1) (d := some 22) (v := .slice A3 (k + 1) c3) rfl rfl (by kernel_rfl) (by kernel_rfl) (by kernel_rfl) rfl (fun _ _ _ h => h) (by rfl) ?hy1 hT0 ?go1
              case hy1 =>
                intro w9 hT9
                clear e3
                go_simp
              (try simp only [Act.put, List.setIfInBounds_toArray, List.set_cons_zero, List.set_cons_succ])
              refine wpE_takeT (i := 2) (d := some 23) (v := .pointer (some ⟨b, 0, none⟩)) rfl rfl (by kernel_rfl) (by kernel_rfl) (by kernel_rfl) rfl (fun _ _ _ h => h) (by rfl) ?hy2 hT0 ?go2
              case hy2 =>
                intro w9 hT9
                clear e3
                go_simp
              (try simp only [Act.put, List.setIfInBounds_toArray, List.set_cons_zero, List.set_cons_succ])
              refine wpE_all (rs := [3]) (by kernel_rfl) (by simp) ?_
              refine AllE.cons rfl (fun K hK => ?_) AllE.nil
              simp only [List.getElem_toArray, List.getElem_cons_succ, List.getElem_cons_zero]
              go_simp
              go_at_call 87
              refine (HE5.out).mono ?_
              rintro e w6 ⟨a6, o6, rfl, ha6, hr6, hp6, hm6⟩
              simp only []
              exact ⟨rfl, a6, o6, rfl, by omega, hr6, hp6, (HMV.out.trans hm5).trans ((Mv.of_ext (Ext.refl _).drew).trans hm6)⟩
            | ok tb r2 =>
              rw [hB, PR.bind_ok] at hres
              have HB := Lib.hid hB
              have HRES := Lib.hid hres
              clear hB hres
              go_upto_region 7 with (first | (go_at_call 74; refine (HMU.out).mono ?_; rintro e w5 ⟨v5, a5, rfl, rfl, ha5, hr5, hp5, hm5⟩; have HR5 := Lib.hid hr5; have HP5 := Lib.hid hp5; clear hr5 hp5))
              have hlt5 : a' < a5 := drop_at (by rw [← HLEN.out]; exact HP5.out.at_) (HR1.out.symm.trans HR5.out)
              have hE5 := hE w5.drew b A N c toks a5 (o + 1) 1 (HP5.out.ext (Ext.refl _).drew) ho11 (by omega) (by omega) (by have := HP5.out.at_; omega)
              rw [← HR5.out, HB.out] at hE5
              have HE5 := Lib.hid hE5
              have HNX5 := Lib.hid (HNX.out.mv hm5 (by omega))
              have HKR5 := Lib.hid (HKR.out.mv hm5 (by rw [HG2.out] at hbg2; omega))
              have HG25 := Lib.hid (HG2X.out.mv hm5 (by omega))
              have e3 := HNX5.out.nb.c3
              have hk5 : hs.length ≤ 100 := by have := HHL.out; omega
              clear hE5 hlen
              have hbs : b < W.heap.size + 1 := by rw [HG2.out] at hbg2; omega
              have h5s : W.heap.size + 1 ≤ w5.heap.size := by have := lt_of_block HNX5.out; have := HG2.out; omega
              have hg35 : g3 < w5.heap.size := lt_of_block HNX5.out
              go_region_law (first
                | (go_simp; go_at_call 87; refine (HE5.out).mono ?_; rintro e w6 ⟨v2, a6, rfl, ⟨d2, rfl, hrep⟩, ha6, hr6, hp6, hm6⟩; have hm56 : Mv b w5 w6 := (Mv.of_ext (Ext.refl _).drew).trans hm6; obtain ⟨A7, c7, w7, hrun, hkr7, hbel, hkeep, hsz7, hown7⟩ := KR.append (HKR5.out.mv hm56 hbs) (W := w5) (fun k hk => (HKR5.out.lt k hk).2) hg35 d2 tb hrep h5s hm56.size hk5 w6.heap.size rfl; rw [HHL.out] at hrun hkr7 hown7; have HNX6 := Lib.hid (HNX5.out.mv hm56 (by omega)); have e3a := HNX6.out.nb.c3; have e3b := (NX.mv (b := b) HNX6.out (Mv.of_ext ((Ext.refl _).alloc (.cells #[.int .i64 d2.k, .int .i64 d2.n, .string d2.s, .slice d2.A d2.m d2.c] 31))) (by omega)).nb.c3; have HRUN := Lib.hid hrun; have HKR7 := Lib.hid hkr7; have HNX7 := Lib.hid (show NX w7 g3 9 0 ⟨#[]⟩ (.slice A3 (k + 1) c3) from (hkeep g3 (lt_of_block HNX6.out) HKR5.out.2.2.1).trans HNX6.out); have e37 := HNX7.out.nb.c3; have f37 := HNX7.out.nb.f3; have HKEEP := Lib.hid hkeep; have HBEL := Lib.hid hbel; have HR6 := Lib.hid hr6; have HP6 := Lib.hid hp6; have HSZ7 := Lib.hid hsz7; have HOWN7 := Lib.hid hown7; clear hrep hkr7 hrun hkeep hbel hr6 hp6 hsz7 hown7; simp only [])
                | (refine step_append_run (s := .tmp 22) (x := .tmp 25) HRUN.out rfl rfl rfl rfl rfl ?_))
              all_goals
                go_wp2
                have hmW := (HMV.out.trans hm5).trans hm56
                have hown : ∀ k9, (Value.slice A3 (k + 1) c3).ownBlock = some k9 → W.heap.size + 1 ≤ k9 := fun k9 e => (HKR5.out.lt k9 e).1
                have hm7 := hmW.grow HP.out.lt (Nat.le_succ _) HBEL.out HKEEP.out hown HSZ7.out
                have hg3W : W.heap.size ≤ g3 := by have := HG2.out; omega
                have hp7 : PB w7 b A N c toks a6 (o + 1) := HP6.out.keep W.heap.size HP.out.lt HP.out.lts (fun k9 h9 => HKEEP.out k9 (Nat.lt_of_lt_of_le h9 hmW.size) (fun e => by have := hown k9 e; omega))
                have hnx8 : NX (w7.setCell ⟨g3, 3, none⟩ (.slice A7 (k + 1 + 1) c7)) g3 9 0 ⟨#[]⟩ (.slice A7 (k + 1 + 1) c7) := (heap_setCell_same w7 g3 3 _ 31 _ HNX7.out).trans rfl
                have hgb : gs ≠ b := by omega
                have hgs5 : gs < w6.heap.size := Nat.lt_of_lt_of_le hgs (hm5.trans hm56).size
                have hg2W : g2 < W.heap.size + 1 := by have := HG2.out; omega
                refine ⟨⟨k + 1, a6, A7, c7, hs ++ [d2], ts ++ [tb], by omega, by simp, by omega, by simp [HHL.out], HP.out.setNew hp7 (p := ⟨g3, 3, none⟩) hg3W _, hnx8, HKR7.out.keep (by simp) (fun k9 h1 h2 h3 => heap_setCell_other w7 _ k9 _ h2), fun j hj => ?_, ?_, ?_, ?_, hm7.setNew (p := ⟨g3, 3, none⟩) hg3W _, fun e => ?_⟩, by simp only [toM]; omega⟩
                · rw [World.cell?_of_block (a := ⟨gs, j, none⟩) ((heap_setCell_other w7 ⟨g3, 3, none⟩ gs _ (by simp only; omega)).trans ((HKEEP.out gs hgs5 HNE4.out).trans ((hm5.trans hm56).keep gs hgb hgs)))]
                  exact HSTR.out j hj
                · simp; exact Nat.lt_of_lt_of_le hgs5 HSZ7.out
                · exact (heap_setCell_other w7 ⟨g3, 3, none⟩ g2 _ (by simp only; omega)).trans ((HKEEP.out g2 (by have := lt_of_block HG25.out; have := hm56.size; omega) (fun e => by have := hown g2 e; omega)).trans (HG25.out.mv hm56 (by omega)))
                · rw [← HR6.out]; exact HRES.out
                · rcases HOWN7.out gs e with h1 | h1
                  · exact HNE4.out h1
                  · omega
        · have hkI : ¬ (k : Int) < 2 := by omega
          obtain rfl : k = 2 := by omega
          have hres2 : (mustP wEnd (toks.drop a')).bind (fun _ r => PR.ok (.nd 9 0 [] ts) r) = RES := hres
          have HCL := Lib.hid (pcloses_any HPB.out ho wEnd ⟨#[101, 110, 100]⟩ rfl (by decide))
          clear hres
          cases hM : mustP wEnd (toks.drop a') with
          | bad r er =>
            rw [hM] at HCL
            rw [hM, PR.bind_bad] at hres2
            subst hres2
            clear hM hlen
            go_wp2_with (first | (go_at_call 159; refine (HCL.out).mono ?_; rintro e w5 ⟨a5, o5, rfl, ha5, hr5, hp5, hm5⟩; have HR5 := Lib.hid hr5; clear hr5))
            exact ⟨rfl, a5, o5, rfl, by omega, HR5.out, hp5, HMV.out.trans hm5⟩
          | ok u r1 =>
            rw [hM] at HCL
            rw [hM, PR.bind_ok] at hres2
            subst hres2
            clear hM hlen
            go_upto_region 10 with (first | (go_at_call 159; refine (HCL.out).mono ?_; rintro e w5 ⟨v5, a5, rfl, rfl, ha5, hr5, hp5, hm5⟩; have HR5 := Lib.hid hr5; have HP5 := Lib.hid hp5; clear hr5 hp5))
            have hbs : b < W.heap.size + 1 := by rw [HG2.out] at hbg2; omega
            have HKR5 := Lib.hid (HKR.out.mv hm5 hbs)
            obtain ⟨_, e0, e1, e2, e3, _, _, _, _⟩ := (HNX.out.mv hm5 (by omega)).nb
            have h2x := (HG2X.out.mv hm5 (by omega)).nb
            rw [HG2.out] at h2x
            obtain ⟨_, d0, d1, d2, d3, f0, f1, f2, f3⟩ := h2x
            go_wp2
            refine bodyPost_ret (v := .agg #[.int .i64 9, .int .i64 0, .string ⟨#[]⟩, .slice A3 3 c3]) (by simp [results, Tryz.results160, go_sem, *]) rfl ?_
            have hg2W : W.heap.size ≤ W.heap.size := Nat.le_refl _
            have hkr := HKR5.out.keep (W' := (((w5.setCell ⟨W.heap.size, 0, none⟩ (.int .i64 9)).setCell ⟨W.heap.size, 1, none⟩ (.int .i64 0)).setCell ⟨W.heap.size, 2, none⟩ (.string ⟨#[]⟩)).setCell ⟨W.heap.size, 3, none⟩ (.slice A3 3 c3)) (by simp) (fun k9 h1 _ _ => by
              rw [heap_setCell_other _ _ _ _ (by simp only; omega), heap_setCell_other _ _ _ _ (by simp only; omega), heap_setCell_other _ _ _ _ (by simp only; omega), heap_setCell_other _ _ _ _ (by simp only; omega)])
            obtain ⟨A9, c9, e9, hrep⟩ := hkr.rep 9 0 []
            have hl9 := HHL.out
            rw [hl9] at e9 hrep
            injection e9 with e9 _ e9'
            subst e9 e9'
            exact ⟨_, a5, rfl, ⟨⟨9, 0, ⟨#[]⟩, A3, 3, c3⟩, rfl, hrep.mono fun k9 h9 _ => by omega⟩, by omega, HR5.out,
              HP.out.setNew (HP.out.setNew (HP.out.setNew (HP.out.setNew HP5.out (p := ⟨W.heap.size, 0, none⟩) hg2W _) (p := ⟨W.heap.size, 1, none⟩) hg2W _) (p := ⟨W.heap.size, 2, none⟩) hg2W _) (p := ⟨W.heap.size, 3, none⟩) hg2W _,
              ((((HMV.out.trans hm5).setNew (p := ⟨W.heap.size, 0, none⟩) hg2W _).setNew (p := ⟨W.heap.size, 1, none⟩) hg2W _).setNew (p := ⟨W.heap.size, 2, none⟩) hg2W _).setNew (p := ⟨W.heap.size, 3, none⟩) hg2W _⟩
end Go.Proofs.YtnpenepdechkjaaGreatDoor
