/- The reference's skip, number, dated, symbol. -/
import Derived.Test.YtbmcplnfamgpcaaDoorRd
import Derived.Test.YtbmcplnfamgpcaaDoorLy
import Derived.Test.YtbmcplnfamgpcaaDoorSy
import Derived.Test.YtbmcplnfamgpcaaDoorPlain4
namespace Go.Proofs.YtbmcplnfamgpcaaDoor
open Go Go.RowKit

def skN (l : List UInt8) (a : Nat) : Nat := l.length - (skipB false (l.drop a)).length
def SkRel (l : List UInt8) (a : Nat) (p c : Value) : Prop := ∃ (i : Nat) (cm : Bool), i ≤ l.length ∧ p = .int .i64 i ∧ c = .bool cm ∧ skipB cm (l.drop i) = skipB false (l.drop a)
theorem sk_stay {l : List UInt8} {a i : Nat} {cm : Bool} {b : UInt8} {r : List UInt8} (h : skipB cm (l.drop i) = skipB false (l.drop a)) (hl : l.drop i = b :: r) (hb : skipB cm (b :: r) = b :: r) (hi : i ≤ l.length) : ((i : Nat) : Int) = (skN l a : Nat) := by
  unfold skN
  rw [← h, hl, hb, ← hl, List.length_drop]; omega
def tokM' (n : Nat) (v : Value) : Nat := match v with | .int _ z => n - z.toNat | _ => 0
theorem sk_end {l : List UInt8} {a : Nat} {cm : Bool} (h : skipB cm (l.drop l.length) = skipB false (l.drop a)) : ((l.length : Nat) : Int) = (skN l a : Nat) := by
  unfold skN
  rw [← h, List.drop_length]; cases cm <;> simp [skipB]
set_option maxHeartbeats 4000000 in
set_option maxRecDepth 100000 in
theorem rskip_any (s : ByteArray) (a : Nat) (w : World) (ha : a ≤ s.size) (hs : s.size ≤ 281474976710656) :
    Calls Tryd.prog 35 #[.string s, .int .i64 a] w (fun e w' => e = .returned (.int .i64 (skN s.data.toList a : Nat)) ∧ w' = w) := by
  have HB := Lib.hid (fun c X => rblank_any c X)
  go_enter Tryd.func35, Tryd.ntmps35
  go_wp2
  go_loop [1, 5] (fun p c => SkRel s.data.toList a p c) (fun p _ => tokM' s.size p)
  case atStart => exact ⟨a, false, by rw [list_size]; exact ha, rfl, rfl, rfl⟩
  case round =>
    obtain ⟨i, cm, hi, rfl, rfl, hk⟩ := hrel
    have HK := Lib.hid hk
    rw [list_size] at hi
    clear hk
    by_cases hil : i < s.size
    · have hl := get_list s i hil
      obtain ⟨b, hb⟩ : ∃ b : UInt8, b = s[i]'hil := ⟨_, rfl⟩
      rw [← hb] at hl
      have hgt : ∀ h : i < s.size, s[i]'h = b := fun h => hb.symm
      have HL := Lib.hid hl
      have HBB := Lib.hid (HB.out b)
      clear hl hb
      by_cases h10 : b.toNat = 10
      · have g10 : ((b.toNat : Int) == 10) = true := by rw [beq_iff_eq]; omega
        have hbe : b = 10 := UInt8.toNat_inj.1 h10
        have HF := Lib.hid (show skipB false (s.data.toList.drop (i + 1)) = skipB false (s.data.toList.drop a) by rw [← HK.out, HL.out, skipB, if_pos hbe])
        clear hbe h10
        go_wp2
        exact ⟨⟨i + 1, false, by rw [list_size]; omega, rfl, rfl, HF.out⟩, by simp only [tokM']; omega⟩
      · have g10 : ((b.toNat : Int) == 10) = false := by rw [beq_eq_false_iff_ne]; omega
        have n10 : b ≠ 10 := fun h => h10 (by rw [h]; rfl)
        by_cases h35 : b.toNat = 35
        · have g35 : ((b.toNat : Int) == 35) = true := by rw [beq_iff_eq]; omega
          have hbe : b = 35 := UInt8.toNat_inj.1 h35
          have HF := Lib.hid (show skipB true (s.data.toList.drop (i + 1)) = skipB false (s.data.toList.drop a) by rw [← HK.out, HL.out, skipB, if_neg n10, if_pos hbe])
          clear hbe h10 h35 n10
          go_wp2
          exact ⟨⟨i + 1, true, by rw [list_size]; omega, rfl, rfl, HF.out⟩, by simp only [tokM']; omega⟩
        · have g35 : ((b.toNat : Int) == 35) = false := by rw [beq_eq_false_iff_ne]; omega
          have n35 : b ≠ 35 := fun h => h35 (by rw [h]; rfl)
          cases cm with
          | true =>
            have HF := Lib.hid (show skipB true (s.data.toList.drop (i + 1)) = skipB false (s.data.toList.drop a) by rw [← HK.out, HL.out, skipB, if_neg n10, if_neg n35]; rfl)
            clear h10 h35 n10 n35
            go_wp2
            exact ⟨⟨i + 1, true, by rw [list_size]; omega, rfl, rfl, HF.out⟩, by simp only [tokM']; omega⟩
          | false =>
            cases hbk : blk b with
            | true =>
              rw [hbk] at HBB
              have HF := Lib.hid (show skipB false (s.data.toList.drop (i + 1)) = skipB false (s.data.toList.drop a) by rw [← HK.out, HL.out, skipB, if_neg n10, if_neg n35, hbk]; rfl)
              clear h10 h35 n10 n35 hbk
              go_wp2_with (first | (go_at_call 39; refine (HBB.out _).mono ?_; rintro e w1 ⟨rfl, rfl⟩))
              exact ⟨⟨i + 1, false, by rw [list_size]; omega, rfl, rfl, HF.out⟩, by simp only [tokM']; omega⟩
            | false =>
              rw [hbk] at HBB
              have HF := Lib.hid (sk_stay HK.out HL.out (by rw [skipB, if_neg n10, if_neg n35, hbk]; rfl) (by rw [list_size]; exact hi))
              clear h10 h35 n10 n35 hbk
              go_wp2_with (first | (go_at_call 39; refine (HBB.out _).mono ?_; rintro e w1 ⟨rfl, rfl⟩))
              go_ret
              exact ⟨ret_int HF.out, rfl⟩
    · obtain rfl : i = s.size := by omega
      have HF := Lib.hid (sk_end (l := s.data.toList) (a := a) (cm := cm) (by rw [list_size]; exact HK.out))
      rw [list_size] at HF
      have hni : ¬ ((s.size : Int) < (s.size : Int)) := by omega
      go_wp2
      go_ret
      exact ⟨ret_int HF.out, rfl⟩
theorem low_getD {s : ByteArray} {i : Nat} (h : i < s.size) : s.data.toList.getD i 0 = s[i]'h := by
  rw [List.getD_eq_getElem?_getD, low_get' s i h]; rfl
def cap31 (n : Nat) : Nat := min n 2147483648
def CpRel (l : List UInt8) (n i : Value) : Prop := ∃ j, j ≤ l.length ∧ i = .int .i64 (j : Nat) ∧ n = .int .i64 (cap31 (dval 0 (l.take j)) : Nat)
set_option maxHeartbeats 4000000 in
set_option maxRecDepth 100000 in
theorem rnum_any (s : ByteArray) (w : World) (hs : s.size ≤ 281474976710656) (hd : s.data.toList.all dig = true) :
    Calls Tryd.prog 52 #[.string s] w (fun e w' => e = .returned (.int .i64 (cap31 (dval 0 s.data.toList) : Nat)) ∧ w' = w) := by
  have HD := Lib.hid hd
  clear hd
  go_enter Tryd.func52, Tryd.ntmps52
  go_wp2
  go_loop [3, 4] (fun n i => CpRel s.data.toList n i) (fun _ i => tokM' s.size i)
  case atStart => exact ⟨0, by omega, rfl, rfl⟩
  case round =>
    obtain ⟨j, hj, rfl, rfl⟩ := hrel
    rw [list_size] at hj
    by_cases hjl : j < s.size
    · have hst := dval_take (L := s.data.toList) (j := j) (by rw [list_size]; exact hjl)
      have hk : 48 ≤ (s.data.toList.getD j 0).toNat ∧ (s.data.toList.getD j 0).toNat ≤ 57 := by
        have hm : s.data.toList.getD j 0 ∈ s.data.toList := by
          rw [low_getD hjl]; have := low_get' s j hjl; exact List.mem_of_getElem? this
        exact dig_iff.1 (List.all_eq_true.1 HD.out _ hm)
      rw [low_getD hjl] at hst hk
      obtain ⟨b, hb⟩ : ∃ b : UInt8, b = s[j]'hjl := ⟨_, rfl⟩
      rw [← hb] at hst hk
      have hgt : ∀ h : j < s.size, s[j]'h = b := fun h => hb.symm
      obtain ⟨u, hu⟩ : ∃ u, u = dval 0 (s.data.toList.take j) := ⟨_, rfl⟩
      rw [← hu] at hst ⊢
      have hcu : cap31 u ≤ 2147483648 := by unfold cap31; omega
      have HST := Lib.hid (show cap31 (dval 0 (s.data.toList.take (j + 1))) = min (10 * cap31 u + (b.toNat - 48)) 2147483648 by rw [hst]; unfold cap31; omega)
      obtain ⟨v, hv⟩ : ∃ v, v = cap31 u := ⟨_, rfl⟩
      rw [← hv] at hcu HST ⊢
      clear hst hb hu hv
      go_wp2
      exact ⟨⟨j + 1, by rw [list_size]; omega, rfl, by rw [HST.out]; congr 1; omega⟩, by simp only [tokM']; omega⟩
    · obtain rfl : j = s.size := by omega
      have hni : ¬ ((s.size : Int) < (s.size : Int)) := by omega
      go_wp2
      go_ret
      exact ⟨ret_int (by rw [← list_size, List.take_length]), rfl⟩
theorem dated_no {l : List UInt8} {i : Nat} {c f : UInt8} (h0 : l.head? = some 64) (hl : 11 ≤ l.length) (hc : l[i]? = some c) (hf : formL[i]? = some f) (hk : fit f c = false) : dated l = false := by
  rw [Bool.eq_false_iff]
  intro h
  rw [(dated_fit h0 hl).1 h i c f hc hf] at hk
  cases hk
def DdRel (l : List UInt8) (i : Value) : Prop := ∃ j, 1 ≤ j ∧ j ≤ 11 ∧ i = .int .i64 (j : Nat) ∧ FitTo l j
set_option maxHeartbeats 4000000 in
set_option maxRecDepth 100000 in
theorem rdated_any (s : ByteArray) (w : World) (h0 : s.data.toList.head? = some 64) (hs : s.size ≤ 281474976710656) : Calls Tryd.prog 53 #[.string s] w (BQ (dated s.data.toList) w) := by
  by_cases hl : 11 ≤ s.size
  · have hll : 11 ≤ s.data.toList.length := by rw [list_size]; exact hl
    have H0 := Lib.hid h0
    have HLL := Lib.hid hll
    have HDI := Lib.hid (fun c X => rdigit_any c X)
    have h11 : ¬ (s.size : Int) < 11 := by omega
    clear h0 hll
    go_enter Tryd.func53, Tryd.ntmps53
    go_wp2
    go_loop [3] (fun i => DdRel s.data.toList i) (fun i => tokM' 11 i)
    case atStart => exact ⟨1, by omega, by omega, rfl, fun j c f hj hc hf => by
      obtain rfl : j = 0 := by omega
      have e : c = 64 := by
        have := H0.out
        rw [List.head?_eq_getElem?, hc] at this
        exact Option.some.inj this
      obtain rfl : (64 : UInt8) = f := Option.some.inj hf
      rw [e]; decide⟩
    case round =>
      obtain ⟨i, h1, hi, rfl, hf⟩ := hrel
      have HF := Lib.hid hf
      clear hf
      by_cases hil : i < 11
      · have hsz : i < s.size := by omega
        have hc := low_get' s i hsz
        obtain ⟨b, hb⟩ : ∃ b : UInt8, b = s[i]'hsz := ⟨_, rfl⟩
        rw [← hb] at hc
        have hgt : ∀ h : i < s.size, s[i]'h = b := fun h => hb.symm
        have HC := Lib.hid hc
        have HDB := Lib.hid (HDI.out b)
        clear hc hb
        by_cases hd : i = 5 ∨ i = 8
        · have hff : formL[i]? = some 45 := by rcases hd with rfl | rfl <;> rfl
          have HFF := Lib.hid hff
          clear hff
          by_cases hb45 : b.toNat = 45
          · have g45 : ((b.toNat : Int) != 45) = false := by rw [bne_eq_false_iff_eq]; omega
            have HN := Lib.hid (fit_step HF.out HC.out HFF.out (by rw [UInt8.toNat_inj.1 (show b.toNat = (45 : UInt8).toNat from hb45)]; decide))
            clear hb45
            rcases hd with rfl | rfl
            · go_wp2
              exact ⟨⟨6, by omega, by omega, rfl, HN.out⟩, by simp only [tokM']; omega⟩
            · go_wp2
              exact ⟨⟨9, by omega, by omega, rfl, HN.out⟩, by simp only [tokM']; omega⟩
          · have g45 : ((b.toNat : Int) != 45) = true := by rw [bne_iff_ne]; omega
            have HN := Lib.hid (dated_no H0.out HLL.out HC.out HFF.out (by
              simp only [fit]
              rw [if_neg (by decide)]
              exact decide_eq_false fun h => hb45 (by rw [h]; rfl)))
            clear hb45
            rcases hd with rfl | rfl
            · go_wp2
              go_ret
              exact ⟨ret_bool HN.out.symm, rfl⟩
            · go_wp2
              go_ret
              exact ⟨ret_bool HN.out.symm, rfl⟩
        · have g5 : ((i : Int) == 5) = false := by rw [beq_eq_false_iff_ne]; omega
          have g8 : ((i : Int) == 8) = false := by rw [beq_eq_false_iff_ne]; omega
          have hff : formL[i]? = some 100 := by
            rcases (by omega : i = 1 ∨ i = 2 ∨ i = 3 ∨ i = 4 ∨ i = 6 ∨ i = 7 ∨ i = 9 ∨ i = 10) with rfl | rfl | rfl | rfl | rfl | rfl | rfl | rfl <;> rfl
          have HFF := Lib.hid hff
          clear hff hd
          cases hdg : dig b with
          | true =>
            have HN := Lib.hid (fit_step HF.out HC.out HFF.out (by simp only [fit, if_true]; exact hdg))
            rw [hdg] at HDB
            clear hdg
            go_wp2_with (first | (go_at_call 51; refine (HDB.out _).mono ?_; rintro e w1 ⟨rfl, rfl⟩))
            exact ⟨⟨i + 1, by omega, by omega, rfl, HN.out⟩, by simp only [tokM']; omega⟩
          | false =>
            have HN := Lib.hid (dated_no H0.out HLL.out HC.out HFF.out (by simp only [fit, if_true]; exact hdg))
            rw [hdg] at HDB
            clear hdg
            go_wp2_with (first | (go_at_call 51; refine (HDB.out _).mono ?_; rintro e w1 ⟨rfl, rfl⟩))
            go_ret
            exact ⟨ret_bool HN.out.symm, rfl⟩
      · obtain rfl : i = 11 := by omega
        have HN := Lib.hid (fit_all H0.out HLL.out HF.out)
        go_wp2
        go_ret
        exact ⟨ret_bool HN.out.symm, rfl⟩
  · have HN := Lib.hid (show dated s.data.toList = false by unfold dated; rw [decide_eq_false (by rw [list_size]; exact hl)]; rfl)
    have h11 : (s.size : Int) < 11 := by omega
    clear h0 hl
    go_enter Tryd.func53, Tryd.ntmps53
    go_wp2
    go_ret
    exact ⟨ret_bool HN.out.symm, rfl⟩
theorem two_list (s : ByteArray) (c : UInt8) (r : List UInt8) (hl : s.data.toList = c :: r) : (s.extract 0 2).toList = c :: r.take 1 := by
  rw [ByteArray.toList_eq, extract_list, hl]; rfl
theorem two_eq {c a : UInt8} {r : List UInt8} : c :: r.take 1 = [a, 61] ↔ c = a ∧ r.head? = some 61 := by
  cases r <;> simp
theorem all_at : ∀ i, i < 12 → ∃ x, symL[i]? = some x ∧ ∀ h : i < (⟨#[123, 125, 40, 41, 59, 44, 43, 45, 42, 60, 61, 62]⟩ : ByteArray).size, (⟨#[123, 125, 40, 41, 59, 44, 43, 45, 42, 60, 61, 62]⟩ : ByteArray)[i]'h = x := by
  intro i hi
  rcases (by omega : i = 0 ∨ i = 1 ∨ i = 2 ∨ i = 3 ∨ i = 4 ∨ i = 5 ∨ i = 6 ∨ i = 7 ∨ i = 8 ∨ i = 9 ∨ i = 10 ∨ i = 11) with rfl | rfl | rfl | rfl | rfl | rfl | rfl | rfl | rfl | rfl | rfl | rfl <;> exact ⟨_, rfl, fun _ => rfl⟩
def SyRel (c : UInt8) (i : Value) : Prop := ∃ j, j ≤ 12 ∧ i = .int .i64 (j : Nat) ∧ c ∉ symL.take j
theorem sym_in {c : UInt8} {r : List UInt8} (h : ¬ ((c = 60 ∨ c = 33 ∨ c = 62) ∧ r.head? = some 61)) (hm : c ∈ symL) : symN (c :: r) = 1 := by
  rw [symN_cons, if_neg h, if_pos (by simpa [symL] using hm)]
theorem sym_out {c : UInt8} {r : List UInt8} (h : ¬ ((c = 60 ∨ c = 33 ∨ c = 62) ∧ r.head? = some 61)) (hm : c ∉ symL) : symN (c :: r) = 0 := by
  rw [symN_cons, if_neg h, if_neg (fun h => hm (by simpa [symL] using h))]
set_option maxHeartbeats 4000000 in
set_option maxRecDepth 100000 in
theorem rsym_any (s : ByteArray) (w : World) (hs : s.size ≤ 281474976710656) (h0 : 0 < s.size) :
    Calls Tryd.prog 55 #[.string s] w (fun e w' => e = .returned (.int .i64 (symN s.data.toList : Nat)) ∧ Ext w w') := by
  have hl := get_list s 0 h0
  rw [List.drop_zero] at hl
  obtain ⟨c, hc⟩ : ∃ c : UInt8, c = s[0]'h0 := ⟨_, rfl⟩
  rw [← hc] at hl
  have hgt : ∀ h : 0 < s.size, s[0]'h = c := fun h => hc.symm
  obtain ⟨r, hr⟩ : ∃ r, r = s.data.toList.drop (0 + 1) := ⟨_, rfl⟩
  rw [← hr] at hl
  have h2l := two_list s c r hl
  have HL := Lib.hid hl
  have hz : s.size = r.length + 1 := by rw [← list_size, hl, List.length_cons]
  clear hl hc hr
  by_cases h2 : 2 ≤ s.size
  · have h2' : (2 : Int) ≤ (s.size : Int) := by omega
    rw [show ∀ p q : List UInt8, (p = q) = (p = q) from fun _ _ => rfl] at h2l
    have H2L := Lib.hid h2l
    have e2 : ∀ a : UInt8, (s.extract 0 2).toList = [a, 61] ↔ c = a ∧ r.head? = some 61 := fun a => by rw [H2L.out, two_eq]
    clear h2l hz
    by_cases t60 : (s.extract 0 2).toList = [60, 61]
    · have HF := Lib.hid (show symN (c :: r) = 2 by
        obtain ⟨rfl, h⟩ := (e2 60).1 t60
        rw [symN_cons, if_pos ⟨.inl rfl, h⟩])
      clear e2
      go_enter Tryd.func55, Tryd.ntmps55
      go_wp2
      go_ret
      exact ⟨ret_int (by rw [HL.out, HF.out]; rfl), Ext.refl _⟩
    · have b60 : ((s.extract 0 2).toList == [60, 61]) = false := by rw [beq_eq_false_iff_ne]; exact t60
      by_cases t33 : (s.extract 0 2).toList = [33, 61]
      · have HF := Lib.hid (show symN (c :: r) = 2 by
          obtain ⟨rfl, h⟩ := (e2 33).1 t33
          rw [symN_cons, if_pos ⟨.inr (.inl rfl), h⟩])
        clear e2
        go_enter Tryd.func55, Tryd.ntmps55
        go_wp2
        go_ret
        exact ⟨ret_int (by rw [HL.out, HF.out]; rfl), Ext.refl _⟩
      · have b33 : ((s.extract 0 2).toList == [33, 61]) = false := by rw [beq_eq_false_iff_ne]; exact t33
        by_cases t62 : (s.extract 0 2).toList = [62, 61]
        · have HF := Lib.hid (show symN (c :: r) = 2 by
            obtain ⟨rfl, h⟩ := (e2 62).1 t62
            rw [symN_cons, if_pos ⟨.inr (.inr rfl), h⟩])
          clear e2
          go_enter Tryd.func55, Tryd.ntmps55
          go_wp2
          go_ret
          exact ⟨ret_int (by rw [HL.out, HF.out]; rfl), Ext.refl _⟩
        · have b62 : ((s.extract 0 2).toList == [62, 61]) = false := by rw [beq_eq_false_iff_ne]; exact t62
          have HNO := Lib.hid (show ¬ ((c = 60 ∨ c = 33 ∨ c = 62) ∧ r.head? = some 61) by
            rintro ⟨h | h | h, h4⟩
            · exact t60 ((e2 60).2 ⟨h, h4⟩)
            · exact t33 ((e2 33).2 ⟨h, h4⟩)
            · exact t62 ((e2 62).2 ⟨h, h4⟩))
          clear e2 t60 t33 t62
          go_enter Tryd.func55, Tryd.ntmps55
          go_wp2
          go_loopw [5] (fun i w' => SyRel c i ∧ Ext w w') (fun i _ => tokM' 12 i)
          case atStart => exact ⟨⟨0, by omega, rfl, by simp⟩, Ext.refl _⟩
          case round =>
            obtain ⟨⟨i, hi, rfl, hn⟩, hxr⟩ := hrel
            have HN := Lib.hid hn
            clear hn
            by_cases hil : i < 12
            · obtain ⟨x, hx, hall⟩ := all_at i hil
              have HX := Lib.hid hx
              clear hx
              by_cases hcx : c.toNat = x.toNat
              · have gcx : ((c.toNat : Int) == (x.toNat : Int)) = true := by rw [beq_iff_eq]; omega
                have HF := Lib.hid (sym_in HNO.out (by rw [UInt8.toNat_inj.1 hcx]; exact List.mem_of_getElem? HX.out))
                clear hcx
                go_wp2
                go_quiet (fail)
                go_wp2
                go_ret
                exact ⟨ret_int (by rw [HL.out, HF.out]; rfl), hxr.drewN _⟩
              · have gcx : ((c.toNat : Int) == (x.toNat : Int)) = false := by rw [beq_eq_false_iff_ne]; omega
                have HF := Lib.hid (show c ∉ symL.take (i + 1) by
                  rw [List.take_add_one, HX.out]
                  intro h
                  rcases List.mem_append.1 h with h | h
                  · exact HN.out h
                  · exact hcx (by rw [show c = x by simpa using h]))
                clear hcx
                go_wp2
                go_quiet (fail)
                go_wp2
                exact ⟨⟨⟨i + 1, by omega, rfl, HF.out⟩, hxr.drewN _⟩, by simp only [tokM']; omega⟩
            · obtain rfl : i = 12 := by omega
              have HF := Lib.hid (sym_out HNO.out HN.out)
              go_wp2
              go_ret
              exact ⟨ret_int (by rw [HL.out, HF.out]; rfl), hxr⟩
  · have h2' : ¬ (2 : Int) ≤ (s.size : Int) := by omega
    have HNO := Lib.hid (show ¬ ((c = 60 ∨ c = 33 ∨ c = 62) ∧ r.head? = some 61) by
      rintro ⟨_, h⟩
      cases r with
      | nil => cases h
      | cons => rw [List.length_cons] at hz; omega)
    clear h2l hz
    go_enter Tryd.func55, Tryd.ntmps55
    go_wp2
    go_loopw [5] (fun i w' => SyRel c i ∧ Ext w w') (fun i _ => tokM' 12 i)
    case atStart => exact ⟨⟨0, by omega, rfl, by simp⟩, Ext.refl _⟩
    case round =>
      obtain ⟨⟨i, hi, rfl, hn⟩, hxr⟩ := hrel
      have HN := Lib.hid hn
      clear hn
      by_cases hil : i < 12
      · obtain ⟨x, hx, hall⟩ := all_at i hil
        have HX := Lib.hid hx
        clear hx
        by_cases hcx : c.toNat = x.toNat
        · have gcx : ((c.toNat : Int) == (x.toNat : Int)) = true := by rw [beq_iff_eq]; omega
          have HF := Lib.hid (sym_in HNO.out (by rw [UInt8.toNat_inj.1 hcx]; exact List.mem_of_getElem? HX.out))
          clear hcx
          go_wp2
          go_quiet (fail)
          go_wp2
          go_ret
          exact ⟨ret_int (by rw [HL.out, HF.out]; rfl), hxr.drewN _⟩
        · have gcx : ((c.toNat : Int) == (x.toNat : Int)) = false := by rw [beq_eq_false_iff_ne]; omega
          have HF := Lib.hid (show c ∉ symL.take (i + 1) by
            rw [List.take_add_one, HX.out]
            intro h
            rcases List.mem_append.1 h with h | h
            · exact HN.out h
            · exact hcx (by rw [show c = x by simpa using h]))
          clear hcx
          go_wp2
          go_quiet (fail)
          go_wp2
          exact ⟨⟨⟨i + 1, by omega, rfl, HF.out⟩, hxr.drewN _⟩, by simp only [tokM']; omega⟩
      · obtain rfl : i = 12 := by omega
        have HF := Lib.hid (sym_out HNO.out HN.out)
        go_wp2
        go_ret
        exact ⟨ret_int (by rw [HL.out, HF.out]; rfl), hxr⟩
end Go.Proofs.YtbmcplnfamgpcaaDoor
