/- The contract of lexer's 'day': the walk. -/
import Derived.Test.YtbmcplnfamgpcaaDoorLd
namespace Go.Proofs.YtbmcplnfamgpcaaDoor
open Go Go.RowKit

def FitTo (l : List UInt8) (i : Nat) : Prop := ∀ (j : Nat) (c f : UInt8), j < i → l[j]? = some c → formL[j]? = some f → fit f c = true
theorem fit_step {l : List UInt8} {i : Nat} {c f : UInt8} (h : FitTo l i) (hc : l[i]? = some c) (hf : formL[i]? = some f) (hk : fit f c = true) : FitTo l (i + 1) := by
  intro j c' f' hj h1 h2
  by_cases e : j = i
  · subst e; rw [hc] at h1; rw [hf] at h2; injection h1 with h1; injection h2 with h2; subst h1; subst h2; exact hk
  · exact h j c' f' (by omega) h1 h2
theorem fit_bad {l : List UInt8} {i : Nat} {c f : UInt8} (h0 : l.head? = some 64) (hl : 11 ≤ l.length) (hc : l[i]? = some c) (hf : formL[i]? = some f) (hk : fit f c = false) : dayT l = .err 20 := by
  rw [dayT, if_neg]
  intro hd
  have := (dated_fit h0 hl).1 hd i c f hc hf
  rw [hk] at this; cases this
theorem fit_all {l : List UInt8} (h0 : l.head? = some 64) (hl : 11 ≤ l.length) (h : FitTo l 11) : dated l = true :=
  (dated_fit h0 hl).2 fun j c f hc hf => h j c f (by
    rcases Nat.lt_or_ge j 11 with h | h
    · exact h
    · have : formL[j]? = none := List.getElem?_eq_none h
      rw [this] at hf; cases hf) hc hf
theorem form_at : ∀ i, i < 11 → ∃ f, formL[i]? = some f ∧ f.toNat < 128 ∧ ∀ h : i < (⟨#[64, 100, 100, 100, 100, 45, 100, 100, 45, 100, 100]⟩ : ByteArray).size, (⟨#[64, 100, 100, 100, 100, 45, 100, 100, 45, 100, 100]⟩ : ByteArray)[i]'h = f := by
  intro i hi
  rcases (by omega : i = 0 ∨ i = 1 ∨ i = 2 ∨ i = 3 ∨ i = 4 ∨ i = 5 ∨ i = 6 ∨ i = 7 ∨ i = 8 ∨ i = 9 ∨ i = 10) with rfl | rfl | rfl | rfl | rfl | rfl | rfl | rfl | rfl | rfl | rfl <;>
    exact ⟨_, rfl, by decide, fun _ => rfl⟩
theorem digI_dig (c : UInt8) : digI (c.toNat : Int) = dig c := by
  rw [digI, dig]; congr 1 <;> (apply decide_eq_decide.2; omega)
def FW (w : World) (i : Nat) : World := (w.alloc (.cells #[.int .i64 0, .int .i64 0, .string ⟨#[]⟩, .int .i64 0] 36)).alloc (.stringIter ⟨#[64, 100, 100, 100, 100, 45, 100, 100, 45, 100, 100]⟩ i)
def DRel (s : ByteArray) (w w' : World) : Prop := ∃ i, i ≤ 11 ∧ FitTo s.data.toList i ∧ w' = FW w i
theorem low_get (s : ByteArray) (i : Nat) (h : i < s.size) : s.data.toList[i]? = some (s[i]'h) := by
  have h' : i < s.data.toList.length := by rw [list_size]; exact h
  rw [List.getElem?_eq_getElem h']; rfl
set_option maxHeartbeats 4000000 in
set_option maxRecDepth 100000 in
theorem lday_any (s : ByteArray) (w : World) (h0 : s.data.toList.head? = some 64) (hs : s.size ≤ 281474976710656) (hL : EnvL w) : Calls Tryd.prog 34 #[.string s] w (TPost (dayT s.data.toList) s w) := by
  by_cases h11 : s.size < 11
  · have hT : dayT s.data.toList = .err 20 := by
      rw [dayT, if_neg]
      intro hd
      simp only [dated, Bool.and_eq_true, decide_eq_true_eq] at hd
      have := hd.1; rw [list_size] at this; omega
    have HT := Lib.hid hT
    have h11' : (s.size : Int) < 11 := by omega
    clear hT
    go_enter Tryd.func34, Tryd.ntmps34
    go_wp2
    refine bodyPost_ret (v := .tuple #[.agg #[.int .i64 0, .int .i64 0, .string ⟨#[]⟩, .int .i64 0], .int .i64 20]) (by simp [results, Tryd.results34, go_sem, *]) rfl ?_
    exact tpost_err HT.out rfl ((Ext.refl w).alloc _)
  · have h11' : ¬ (s.size : Int) < 11 := by omega
    have hl : 11 ≤ s.data.toList.length := by rw [list_size]; omega
    have HL := Lib.hid hL
    have HH := Lib.hid h0
    have HLN := Lib.hid hl
    clear h0 hl hL
    go_enter Tryd.func34, Tryd.ntmps34
    go_wp2
    go_loopw [] (fun w' => DRel s w w') (fun w' => 11 - w'.iterPos (w.heap.size + 1))
    case atStart => exact ⟨0, by omega, fun j c f h => absurd h (by omega), rfl⟩
    case round =>
      obtain ⟨i, hi, hfit, rfl⟩ := hrel
      have HF := Lib.hid hfit
      clear hfit
      by_cases hi11 : i < 11
      · obtain ⟨f, hf, hf128, hfi⟩ := form_at i hi11
        have hisz : i < (⟨#[64, 100, 100, 100, 100, 45, 100, 100, 45, 100, 100]⟩ : ByteArray).size := hi11
        have hnx := fun ty => next_any (w.alloc (.cells #[.int .i64 0, .int .i64 0, .string ⟨#[]⟩, .int .i64 0] 36)) (w.heap.size + 1) (by simp) ⟨#[64, 100, 100, 100, 100, 45, 100, 100, 45, 100, 100]⟩ i ty hisz
        have hdec := decode_ascii ⟨#[64, 100, 100, 100, 100, 45, 100, 100, 45, 100, 100]⟩ i hisz (by rw [hfi hisz]; exact hf128)
        rw [hfi hisz] at hdec
        simp only [hdec] at hnx
        have hsi : i < s.size := by omega
        have hci := low_get s i hsi
        have HD := Lib.hid (fun X => digit_any ((s[i]'hsi).toNat : Int) X)
        have hme : 11 - (FW w (i + 1)).iterPos (w.heap.size + 1) < 11 - (FW w i).iterPos (w.heap.size + 1) := by
          unfold FW; rw [iterPos_at _ _ (by simp), iterPos_at _ _ (by simp)]; omega
        have HM := Lib.hid hme
        have HCI := Lib.hid hci
        have HFF := Lib.hid hf
        clear hdec hfi hme hci hf
        rw [digI_dig] at HD
        have hwr : wrap32 ((s[i]'hsi).toNat : Int) = ((s[i]'hsi).toNat : Int) := by unfold wrap32; (have := (s[i]'hsi).toNat_lt; omega)
        by_cases hf100 : f = 100
        · have g1 : ((f.toNat : Int) == 100) = true := by rw [hf100]; rfl
          cases hdg : dig (s[i]'hsi) with
          | true =>
            rw [hdg] at HD
            have FIN := Lib.hid (show DRel s w (FW w (i + 1)) from ⟨i + 1, by omega, fit_step HF.out HCI.out HFF.out (by rw [fit, if_pos hf100]; exact hdg), rfl⟩)
            clear HF HCI HFF HLN HH
            unfold FW
            go_wp2_with (first | (go_at_call 32; refine (HD.out _).mono ?_; rintro e w1 ⟨rfl, rfl⟩))
            exact ⟨FIN.out, HM.out⟩
          | false =>
            rw [hdg] at HD
            have HT := Lib.hid (fit_bad HH.out HLN.out HCI.out HFF.out (by rw [fit, if_pos hf100]; exact hdg))
            clear HF HCI HFF HLN HH
            unfold FW
            go_wp2_with (first | (go_at_call 32; refine (HD.out _).mono ?_; rintro e w1 ⟨rfl, rfl⟩))
            refine bodyPost_ret (v := .tuple #[.agg #[.int .i64 0, .int .i64 0, .string ⟨#[]⟩, .int .i64 0], .int .i64 20]) (by simp [results, Tryd.results34, go_sem, *]) rfl ?_
            exact tpost_err HT.out rfl (by repeat (first | exact Ext.refl _ | apply Ext.alloc))
        · have g1 : ((f.toNat : Int) == 100) = false := by
            rw [beq_eq_false_iff_ne]; intro e; exact hf100 (UInt8.toNat_inj.1 (by have : (100 : UInt8).toNat = 100 := rfl; omega))
          have g2 : ((f.toNat : Int) != 100) = true := by rw [bne_iff_ne]; exact beq_eq_false_iff_ne.1 g1
          by_cases hcf : s[i]'hsi = f
          · have g3 : (((s[i]'hsi).toNat : Int) != (f.toNat : Int)) = false := by rw [hcf]; simp
            have FIN := Lib.hid (show DRel s w (FW w (i + 1)) from ⟨i + 1, by omega, fit_step HF.out HCI.out HFF.out (by rw [fit, if_neg hf100]; exact decide_eq_true hcf), rfl⟩)
            clear HF HCI HFF HLN HH
            unfold FW
            go_wp2_with (first | (go_at_call 32; refine (HD.out _).mono ?_; rintro e w1 ⟨rfl, rfl⟩))
            exact ⟨FIN.out, HM.out⟩
          · have g3 : (((s[i]'hsi).toNat : Int) != (f.toNat : Int)) = true := by
              rw [bne_iff_ne]; intro e; exact hcf (UInt8.toNat_inj.1 (by omega))
            have HT := Lib.hid (fit_bad HH.out HLN.out HCI.out HFF.out (by rw [fit, if_neg hf100]; exact decide_eq_false hcf))
            clear HF HCI HFF HLN HH
            unfold FW
            go_wp2_with (first | (go_at_call 32; refine (HD.out _).mono ?_; rintro e w1 ⟨rfl, rfl⟩))
            refine bodyPost_ret (v := .tuple #[.agg #[.int .i64 0, .int .i64 0, .string ⟨#[]⟩, .int .i64 0], .int .i64 20]) (by simp [results, Tryd.results34, go_sem, *]) rfl ?_
            exact tpost_err HT.out rfl (by repeat (first | exact Ext.refl _ | apply Ext.alloc))
      · obtain rfl : i = 11 := by omega
        have hnx := fun ty => next_end (w.alloc (.cells #[.int .i64 0, .int .i64 0, .string ⟨#[]⟩, .int .i64 0] 36)) (w.heap.size + 1) (by simp) ⟨#[64, 100, 100, 100, 100, 45, 100, 100, 45, 100, 100]⟩ 11 ty (by decide)
        have hdt := fit_all HH.out HLN.out HF.out
        have hx0 : Ext w (FW w 11) := by unfold FW; exact ((Ext.refl w).alloc _).alloc _
        have htb : TBox (FW w 11) w.heap.size 0 0 ⟨#[]⟩ 0 := by unfold FW; exact (TBox.new w 0 0 0 ⟨#[]⟩ 36).ext ((Ext.refl _).alloc _)
        have hP := fun X (hX : Ext w X) => parse_any (s.extract 1 11) X (ten_of hdt) (HL.out.ext hX)
        have hdp := dayP_of s
        have hT0 : dayT s.data.toList = match dayP ((s.data.toList.drop 1).take 10) with | some d => T1.ok 3 11 d | none => .err 5 := by rw [dayT, if_pos hdt]; cases dayP ((s.data.toList.drop 1).take 10) <;> rfl
        rw [hdp] at hT0
        unfold DayPost at hP
        generalize yOf (s.extract 1 11) = y at *
        generalize mOf (s.extract 1 11) = m at *
        generalize dOf (s.extract 1 11) = d at *
        have h11s : 11 ≤ s.size := by omega
        cases hb : dateB y m d with
        | true =>
          have HP := Lib.hid (fun X (hX : Ext w X) => (hP X hX).mono (show ∀ e X', _ → (e = .returned (.tuple #[.int .i64 (dayNo y m d : Nat), .int .i64 0]) ∧ Ext X X') from fun e X' h => by rw [hb] at h; rw [chkE, hb] at h; exact h))
          have HT := Lib.hid (show dayT s.data.toList = .ok 3 11 (dayNo y m d : Nat) by rw [hT0, hb]; rfl)
          have HX := Lib.hid hx0
          have HB := Lib.hid htb
          generalize dayNo y m d = N at *
          clear hP hT0 hdp hdt HF HH HLN hx0 htb hb
          unfold FW
          go_wp2_with (first | (go_at_call 49; refine (HP.out _ HX.out).mono ?_; rintro e w1 ⟨rfl, hx⟩; have q := HB.out.ext hx; have hx3 := HX.out.trans hx; obtain ⟨q0, q1, q2, q3, q4, q5, q6, q7, q8⟩ := q))
          refine bodyPost_ret (v := .tuple #[.agg #[.int .i64 3, .int .i64 0, .string (s.extract 0 11), .int .i64 N], .int .i64 0]) (by simp [results, Tryd.results34, go_sem, *]) rfl ?_
          exact tpost_ok HT.out rfl rfl (extract_take _ _) (hx3.store4 (Nat.le_refl _) _ _ _ _)
        | false =>
          have HP := Lib.hid (fun X (hX : Ext w X) => (hP X hX).mono (show ∀ e X', _ → (e = .returned (.tuple #[.int .i64 0, .int .i64 5]) ∧ Ext X X') from fun e X' h => by rw [hb] at h; rw [chkE, hb] at h; exact h))
          have HT := Lib.hid (show dayT s.data.toList = .err 5 by rw [hT0, hb]; rfl)
          have HX := Lib.hid hx0
          have HB := Lib.hid htb
          clear hP hT0 hdp hdt HF HH HLN hx0 htb hb
          unfold FW
          go_wp2_with (first | (go_at_call 49; refine (HP.out _ HX.out).mono ?_; rintro e w1 ⟨rfl, hx⟩; have q := HB.out.ext hx; have hx3 := HX.out.trans hx; obtain ⟨q0, q1, q2, q3, q4, q5, q6, q7, q8⟩ := q))
          refine bodyPost_ret (v := .tuple #[.agg #[.int .i64 0, .int .i64 0, .string ⟨#[]⟩, .int .i64 0], .int .i64 5]) (by simp [results, Tryd.results34, go_sem, *]) rfl ?_
          exact tpost_err HT.out rfl (hx3.store4 (Nat.le_refl _) _ _ _ _)
end Go.Proofs.YtbmcplnfamgpcaaDoor
