/- The reference's day of a date, and of ten bytes. -/
import Derived.Test.YtnpenepdechkjaaGreatDoorMg
import Derived.Test.YtnpenepdechkjaaGreatDoorMb
import Derived.Test.YtnpenepdechkjaaGreatDoorMa
import Derived.Deep.RegionHeld3
import Derived.Test.YtnpenepdechkjaaGreatDoorMd
import Derived.Test.YtnpenepdechkjaaGreatDoorYm
import Derived.Test.YtnpenepdechkjaaGreatDoorMe
import Derived.Test.YtnpenepdechkjaaGreatDoorMh
namespace Go.Proofs.YtnpenepdechkjaaGreatDoor
open Go Go.RowKit

theorem mdays_le (y : Nat) : ∀ m, mdays y m ≤ 31 * m
  | 0 => Nat.zero_le _
  | 1 => Nat.zero_le _
  | m + 2 => by have := mdays_le y (m + 1); have := mlen_le y (m + 1); rw [mdays]; omega
theorem mdays_step (y k : Nat) (h : 1 ≤ k) : mdays y (k + 1) = mdays y k + mlen y k := by
  obtain ⟨k, rfl⟩ : ∃ i, k = i + 1 := ⟨k - 1, by omega⟩
  rw [mdays]
def stN (y : Nat) : Nat := 365 * (y - 1) + (y - 1) / 4 - (y - 1) / 100 + (y - 1) / 400
theorem stN_le {y : Nat} (h : y ≤ 9999) : stN y ≤ 4000000 := by unfold stN; omega
def NRel (y m d : Nat) (n k : Value) : Prop := ∃ j, 1 ≤ j ∧ j ≤ m ∧ k = .int .i64 j ∧ n = .int .i64 ((stN y : Nat) + (d : Nat) - 1 + (mdays y j : Nat))
def numM (m : Nat) (k : Value) : Nat := match k with | .int _ z => m - z.toNat | _ => 0
set_option maxHeartbeats 4000000 in
set_option maxRecDepth 100000 in
theorem rnumber_any (y m d : Nat) (w : World) (hy : 1 ≤ y) (hy2 : y ≤ 9999) (hm1 : 1 ≤ m) (hm : m ≤ 12) (hd1 : 1 ≤ d) (hd : d ≤ 31) :
    Calls Tryz.prog 180 #[.agg #[.int .i64 y, .int .i64 m, .int .i64 d]] w (fun e w' => e = .returned (.int .i64 (dayNo y m d : Nat)) ∧ Ext w w') := by
  have HS := Lib.hid (fun X => rstart_any y X hy (by omega))
  have HL := Lib.hid (fun (k : Nat) (h1 : 1 ≤ k) (h2 : k ≤ 12) X => rlength_any y k X (by omega) h1 h2)
  have HF := Lib.hid (show ((stN y : Nat) : Int) + d - 1 + (mdays y m : Nat) = (dayNo y m d : Nat) by unfold dayNo stN; omega)
  rw [show 365 * (y - 1) + (y - 1) / 4 - (y - 1) / 100 + (y - 1) / 400 = stN y from rfl] at HS
  have hst := stN_le hy2
  have HM := Lib.hid (mdays_le y)
  have HT := Lib.hid (mdays_step y)
  have HN := Lib.hid (mlen_le y)
  obtain ⟨S, hS⟩ : ∃ S, S = stN y := ⟨_, rfl⟩
  rw [← hS] at HS hst HF
  have HSS := Lib.hid hS
  clear hS
  go_enter Tryz.func180, Tryz.ntmps180
  go_wp2
  go_quiet (first | (go_at_call 141; refine Calls.quiet_of_same ((HS.out _).mono fun _ _ h => h)))
  go_wp2
  go_loop [3, 4] (fun n k => NRel y m d n k) (fun _ k => numM m k)
  case atStart => exact ⟨1, by omega, hm1, rfl, by rw [← HSS.out]; simp [mdays]⟩
  case round =>
    obtain ⟨j, hj1, hj, rfl, rfl⟩ := hrel
    rw [← HSS.out]
    by_cases hjm : j < m
    · have hjm' : (j : Int) < (m : Int) := by omega
      have h31 := HM.out j
      have hst2 := HT.out j hj1
      have hln := HN.out j
      have HC := Lib.hid (HL.out j hj1 (by omega))
      obtain ⟨D, hD⟩ : ∃ D, D = mdays y j := ⟨_, rfl⟩
      obtain ⟨L, hLL⟩ : ∃ L, L = mlen y j := ⟨_, rfl⟩
      rw [← hD] at h31 hst2 ⊢
      rw [← hLL] at hst2 hln HC
      have HST := Lib.hid hst2
      clear hst2 hD hLL
      go_wp2_with (first | (go_at_call 142; refine (HC.out _).mono ?_; rintro e w1 ⟨rfl, rfl⟩))
      refine ⟨⟨j + 1, by omega, by omega, rfl, ?_⟩, by simp [numM]; omega⟩
      rw [← HSS.out, HST.out]; congr 1; omega
    · obtain rfl : j = m := by omega
      have hjm' : ¬ (j : Int) < (j : Int) := by omega
      go_wp2
      go_ret
      exact ⟨ret_int HF.out, ((Ext.refl _).alloc _).drewN _⟩
set_option maxHeartbeats 4000000 in
set_option maxRecDepth 100000 in
theorem rday_any (y m d : Nat) (w : World) (hy : y ≤ 100000) (hm : m ≤ 1000) (hd : d ≤ 1000) : Calls Tryz.prog 158 #[.agg #[.int .i64 y, .int .i64 m, .int .i64 d]] w (DayPost y m d w) := by
  have HC := Lib.hid (fun X => rcheck_any y m d X hy hm hd)
  cases hb : dateB y m d with
  | true =>
    have hi := date_iff hb
    have HN := Lib.hid (fun X => rnumber_any y m d X hi.1 hi.2.1 hi.2.2.1 hi.2.2.2.1 hi.2.2.2.2.1 hi.2.2.2.2.2)
    have hce : chkE y m d = 0 := by rw [chkE, hb]; rfl
    have HE := Lib.hid hce
    have HB := Lib.hid hb
    rw [hce] at HC
    clear hi hb hce
    go_enter Tryz.func158, Tryz.ntmps158
    go_wp2_with (first | (go_at_call 179; refine (HC.out _).mono ?_; rintro e w1 ⟨rfl, hx⟩; have hc1 := hx.cells.1 w.heap.size; have hx0 := ((Ext.refl w).alloc _).trans hx) | (go_at_call 180; refine (HN.out _).mono ?_; rintro e w2 ⟨rfl, hx2⟩))
    refine bodyPost_ret (v := .tuple #[.int .i64 (dayNo y m d : Nat), .int .i64 0]) (by simp [results, Tryz.results158, go_sem, *]) rfl ?_
    exact ⟨by rw [HE.out, HB.out]; rfl, hx0.trans hx2⟩
  | false =>
    have hce : chkE y m d = 5 := by rw [chkE, hb]; rfl
    have HE := Lib.hid hce
    have HB := Lib.hid hb
    rw [hce] at HC
    clear hb hce
    go_enter Tryz.func158, Tryz.ntmps158
    go_wp2_with (first | (go_at_call 179; refine (HC.out _).mono ?_; rintro e w1 ⟨rfl, hx⟩; have hc1 := hx.cells.1 w.heap.size; have hx0 := ((Ext.refl w).alloc _).trans hx))
    refine bodyPost_ret (v := .tuple #[.int .i64 0, .int .i64 5]) (by simp [results, Tryz.results158, go_sem, *]) rfl ?_
    exact ⟨by rw [HE.out, HB.out]; rfl, hx0⟩
theorem low_get' (s : ByteArray) (i : Nat) (h : i < s.size) : s.data.toList[i]? = some (s[i]'h) := by
  have h' : i < s.data.toList.length := by rw [list_size]; exact h
  rw [List.getElem?_eq_getElem h']; rfl
def DgRel (L : List UInt8) (x : Nat) (n i : Value) : Prop := ∃ j, j ≤ L.length ∧ i = .int .i64 (x + j : Nat) ∧ n = .int .i64 (dval 0 (L.take j) : Nat)
def dgM (y : Nat) (k : Value) : Nat := match k with | .int _ z => y - z.toNat | _ => 0
set_option maxHeartbeats 4000000 in
set_option maxRecDepth 100000 in
theorem rdigits_any (s : ByteArray) (x y : Nat) (w : World) (hxy : x ≤ y) (hy : y ≤ s.size) (hs : s.size ≤ 100) (hyx : y - x ≤ 4) (hd : ((s.data.toList.drop x).take (y - x)).all dig = true) :
    Calls Tryz.prog 157 #[.string s, .int .i64 x, .int .i64 y] w (fun e w' => e = .returned (.int .i64 (dval 0 ((s.data.toList.drop x).take (y - x)) : Nat)) ∧ w' = w) := by
  obtain ⟨L, hL⟩ : ∃ L, L = (s.data.toList.drop x).take (y - x) := ⟨_, rfl⟩
  have hlen : L.length = y - x := by rw [hL, List.length_take, List.length_drop, list_size]; omega
  have hget : ∀ j, j < L.length → ∀ h : x + j < s.size, s[x + j]'h = L.getD j 0 := fun j hj h => by
    have e : L[j]? = some (s[x + j]'h) := by
      rw [hL, List.getElem?_take, if_pos (by omega), List.getElem?_drop]
      exact low_get' s (x + j) h
    rw [List.getD_eq_getElem?_getD, e]; rfl
  rw [← hL] at hd ⊢
  clear hL
  have HD := Lib.hid hd
  have HG := Lib.hid hget
  have HLEN := Lib.hid hlen
  clear hd hget hlen
  go_enter Tryz.func157, Tryz.ntmps157
  go_wp2
  go_loop [7, 8] (fun n i => DgRel L x n i) (fun _ i => dgM y i)
  case atStart => exact ⟨0, by omega, rfl, rfl⟩
  case round =>
    obtain ⟨j, hj, rfl, rfl⟩ := hrel
    by_cases hjl : j < L.length
    · have hye := HLEN.out
      have hlt : x + j < s.size := by omega
      have hg := HG.out j hjl
      have hdg := HD.out
      have hst := dval_take hjl
      have hk : 48 ≤ (L.getD j 0).toNat ∧ (L.getD j 0).toNat ≤ 57 := by
        have hm : L.getD j 0 ∈ L := by simp [List.getD, hjl]
        exact dig_iff.1 (List.all_eq_true.1 hdg _ hm)
      have hdv : dval 0 (L.take j) < 10 ^ 4 := dval_lt _ 4 (by rw [List.length_take]; omega) (by
        rw [List.all_eq_true] at hdg ⊢; exact fun a ha => hdg a (List.mem_of_mem_take ha))
      obtain ⟨k, hkk⟩ : ∃ k, k = L.getD j 0 := ⟨_, rfl⟩
      obtain ⟨u, huu⟩ : ∃ u, u = dval 0 (L.take j) := ⟨_, rfl⟩
      rw [← hkk] at hg hk hst
      rw [← huu] at hdv hst ⊢
      have hu4 : u < 10000 := hdv
      have hk1 : ¬ (k.toNat : Int) < 48 := by omega
      have hk2 : ¬ (57 : Int) < (k.toNat : Int) := by omega
      have hi' : ((x + j : Nat) : Int) < (y : Int) := by omega
      have HST := Lib.hid hst
      clear hst hdv hdg hkk huu
      have hlt2 := Nat.lt_of_lt_of_le hlt hs
      have HM := Lib.hid (show ∀ p, p = x + j → DgRel L x (.int .i64 (10 * (u : Int) + (k.toNat : Int) - 48)) (.int .i64 ((p : Int) + 1)) ∧ dgM y (.int .i64 ((p : Int) + 1)) < dgM y (.int .i64 (p : Int)) by
        rintro p rfl
        exact ⟨⟨j + 1, by omega, by congr 1, by rw [HST.out]; congr 1; omega⟩, by simp only [dgM]; omega⟩)
      obtain ⟨p, hp⟩ : ∃ p, p = x + j := ⟨_, rfl⟩
      rw [← hp] at hlt hlt2 hg hi' ⊢
      have HQ := Lib.hid (HM.out p hp)
      clear hp hye
      go_wp2
      exact HQ.out
    · obtain rfl : j = L.length := by omega
      have hye := HLEN.out
      have hi' : ¬ ((x + L.length : Nat) : Int) < (y : Int) := by omega
      obtain ⟨p, hp⟩ : ∃ p, p = x + L.length := ⟨_, rfl⟩
      rw [← hp] at hi' ⊢
      clear hp hye
      go_wp2
      go_ret
      exact ⟨ret_int (by first | rfl | rw [List.take_length]), rfl⟩
set_option maxHeartbeats 4000000 in
set_option maxRecDepth 100000 in
theorem rparse_any (s : ByteArray) (w : World) (hT : Ten s) : Calls Tryz.prog 124 #[.string s] w (DayPost (yOf s) (mOf s) (dOf s) w) := by
  have hs := hT.size
  have hq4 : ∀ h : 4 < s.size, (((s[4]'h).toNat : Int) != 45) = false := fun h => by rw [ten_get s 4 hT.m4 h]; decide
  have hq7 : ∀ h : 7 < s.size, (((s[7]'h).toNat : Int) != 45) = false := fun h => by rw [ten_get s 7 hT.m7 h]; decide
  have hy : yOf s < 10000 := dval_lt _ 4 (by rw [List.length_take]; omega) hT.d4
  have hm : mOf s < 100 := dval_lt _ 2 (by rw [List.length_take]; omega) hT.d5
  have hd : dOf s < 100 := dval_lt _ 2 (by rw [List.length_take]; omega) hT.d8
  have H0 := Lib.hid (fun W => rdigits_any s 0 4 W (by omega) (by omega) (by omega) (by omega) hT.d4)
  have H5 := Lib.hid (fun W => rdigits_any s 5 7 W (by omega) (by omega) (by omega) (by omega) hT.d5)
  have H8 := Lib.hid (fun W => rdigits_any s 8 10 W (by omega) (by omega) (by omega) (by omega) hT.d8)
  have HD := Lib.hid (fun X => rday_any (yOf s) (mOf s) (dOf s) X (by omega) (by omega) (by omega))
  clear hT
  rw [show dval 0 ((s.data.toList.drop 0).take (4 - 0)) = yOf s from rfl] at H0
  rw [show dval 0 ((s.data.toList.drop 5).take (7 - 5)) = mOf s from rfl] at H5
  rw [show dval 0 ((s.data.toList.drop 8).take (10 - 8)) = dOf s from rfl] at H8
  generalize yOf s = y at *
  generalize mOf s = m at *
  generalize dOf s = d at *
  unfold DayPost at HD ⊢
  generalize ((if dateB y m d then dayNo y m d else 0 : Nat) : Int) = N at *
  generalize chkE y m d = E at *
  go_enter Tryz.func124, Tryz.ntmps124
  go_wp2_with (first | (have hg := A2; clear hg; go_at_call 157; refine (H8.out _).mono ?_; rintro e w1 ⟨rfl, rfl⟩) | (have hg := A1; clear hg; go_at_call 157; refine (H5.out _).mono ?_; rintro e w1 ⟨rfl, rfl⟩; have A2 := Lib.hid True.intro) | (go_at_call 157; refine (H0.out _).mono ?_; rintro e w1 ⟨rfl, rfl⟩; have A1 := Lib.hid True.intro) | (go_at_call 158; refine (HD.out _).mono ?_; rintro e w4 ⟨rfl, hx4⟩))
  refine bodyPost_ret (v := .tuple #[.int .i64 N, .int .i64 E]) (by simp [results, Tryz.results124, go_sem, *]) rfl ?_
  exact ⟨rfl, ((Ext.refl _).alloc _).trans hx4⟩
end Go.Proofs.YtnpenepdechkjaaGreatDoor

/- The reference's skip, number, dated, symbol. -/
namespace Go.Proofs.YtnpenepdechkjaaGreatDoor
open Go Go.RowKit

def skN (l : List UInt8) (a : Nat) : Nat := l.length - (skipB false (l.drop a)).length
def SkRel (l : List UInt8) (a : Nat) (p c : Value) : Prop := ∃ (i : Nat) (cm : Bool), i ≤ l.length ∧ p = .int .i64 i ∧ c = .bool cm ∧ skipB cm (l.drop i) = skipB false (l.drop a)
theorem sk_stay {l : List UInt8} {a i : Nat} {cm : Bool} {b : UInt8} {r : List UInt8} (h : skipB cm (l.drop i) = skipB false (l.drop a)) (hl : l.drop i = b :: r) (hb : skipB cm (b :: r) = b :: r) (hi : i ≤ l.length) : ((i : Nat) : Int) = (skN l a : Nat) := by
  unfold skN
  rw [← h, hl, hb, ← hl, List.length_drop]; omega
def tokMb (n : Nat) (v : Value) : Nat := match v with | .int _ z => n - z.toNat | _ => 0
theorem sk_end {l : List UInt8} {a : Nat} {cm : Bool} (h : skipB cm (l.drop l.length) = skipB false (l.drop a)) : ((l.length : Nat) : Int) = (skN l a : Nat) := by
  unfold skN
  rw [← h, List.drop_length]; cases cm <;> simp [skipB]
set_option maxHeartbeats 4000000 in
set_option maxRecDepth 100000 in
theorem rskip_any (s : ByteArray) (a : Nat) (w : World) (ha : a ≤ s.size) (hs : s.size ≤ 281474976710656) :
    Calls Tryz.prog 80 #[.string s, .int .i64 a] w (fun e w' => e = .returned (.int .i64 (skN s.data.toList a : Nat)) ∧ w' = w) := by
  have HB := Lib.hid (fun c X => rblank_any c X)
  go_enter Tryz.func80, Tryz.ntmps80
  go_wp2
  go_loop [1, 5] (fun p c => SkRel s.data.toList a p c) (fun p _ => tokMb s.size p)
  case atStart => exact ⟨a, false, by rw [list_size]; exact ha, rfl, rfl, rfl⟩
  case round =>
    obtain ⟨i, cm, hi, rfl, rfl, hk⟩ := hrel
    have HK := Lib.hid hk
    rw [list_size] at hi
    clear hk
    by_cases hil : i < s.size
    · have hl := get_list s i hil
      obtain ⟨b, hb⟩ : ∃ b : UInt8, b = s[i]'hil := ⟨_, rfl⟩
      rw [← hb] at hl
      have hgt : ∀ h : i < s.size, s[i]'h = b := fun h => hb.symm
      have HL := Lib.hid hl
      have HBB := Lib.hid (HB.out b)
      clear hl hb
      by_cases h10 : b.toNat = 10
      · have g10 : ((b.toNat : Int) == 10) = true := by rw [beq_iff_eq]; omega
        have hbe : b = 10 := UInt8.toNat_inj.1 h10
        have HF := Lib.hid (show skipB false (s.data.toList.drop (i + 1)) = skipB false (s.data.toList.drop a) by rw [← HK.out, HL.out, skipB, if_pos hbe])
        clear hbe h10
        go_wp2
        exact ⟨⟨i + 1, false, by rw [list_size]; omega, rfl, rfl, HF.out⟩, by simp only [tokMb]; omega⟩
      · have g10 : ((b.toNat : Int) == 10) = false := by rw [beq_eq_false_iff_ne]; omega
        have n10 : b ≠ 10 := fun h => h10 (by rw [h]; rfl)
        by_cases h35 : b.toNat = 35
        · have g35 : ((b.toNat : Int) == 35) = true := by rw [beq_iff_eq]; omega
          have hbe : b = 35 := UInt8.toNat_inj.1 h35
          have HF := Lib.hid (show skipB true (s.data.toList.drop (i + 1)) = skipB false (s.data.toList.drop a) by rw [← HK.out, HL.out, skipB, if_neg n10, if_pos hbe])
          clear hbe h10 h35 n10
          go_wp2
          exact ⟨⟨i + 1, true, by rw [list_size]; omega, rfl, rfl, HF.out⟩, by simp only [tokMb]; omega⟩
        · have g35 : ((b.toNat : Int) == 35) = false := by rw [beq_eq_false_iff_ne]; omega
          have n35 : b ≠ 35 := fun h => h35 (by rw [h]; rfl)
          cases cm with
          | true =>
            have HF := Lib.hid (show skipB true (s.data.toList.drop (i + 1)) = skipB false (s.data.toList.drop a) by rw [← HK.out, HL.out, skipB, if_neg n10, if_neg n35]; rfl)
            clear h10 h35 n10 n35
            go_wp2
            exact ⟨⟨i + 1, true, by rw [list_size]; omega, rfl, rfl, HF.out⟩, by simp only [tokMb]; omega⟩
          | false =>
            cases hbk : blk b with
            | true =>
              rw [hbk] at HBB
              have HF := Lib.hid (show skipB false (s.data.toList.drop (i + 1)) = skipB false (s.data.toList.drop a) by rw [← HK.out, HL.out, skipB, if_neg n10, if_neg n35, hbk]; rfl)
              clear h10 h35 n10 n35 hbk
              go_wp2_with (first | (go_at_call 119; refine (HBB.out _).mono ?_; rintro e w1 ⟨rfl, rfl⟩))
              exact ⟨⟨i + 1, false, by rw [list_size]; omega, rfl, rfl, HF.out⟩, by simp only [tokMb]; omega⟩
            | false =>
              rw [hbk] at HBB
              have HF := Lib.hid (sk_stay HK.out HL.out (by rw [skipB, if_neg n10, if_neg n35, hbk]; rfl) (by rw [list_size]; exact hi))
              clear h10 h35 n10 n35 hbk
              go_wp2_with (first | (go_at_call 119; refine (HBB.out _).mono ?_; rintro e w1 ⟨rfl, rfl⟩))
              go_ret
              exact ⟨ret_int HF.out, rfl⟩
    · obtain rfl : i = s.size := by omega
      have HF := Lib.hid (sk_end (l := s.data.toList) (a := a) (cm := cm) (by rw [list_size]; exact HK.out))
      rw [list_size] at HF
      have hni : ¬ ((s.size : Int) < (s.size : Int)) := by omega
      go_wp2
      go_ret
      exact ⟨ret_int HF.out, rfl⟩
theorem low_getD {s : ByteArray} {i : Nat} (h : i < s.size) : s.data.toList.getD i 0 = s[i]'h := by
  rw [List.getD_eq_getElem?_getD, low_get' s i h]; rfl
def cap31 (n : Nat) : Nat := min n 2147483648
def CpRel (l : List UInt8) (n i : Value) : Prop := ∃ j, j ≤ l.length ∧ i = .int .i64 (j : Nat) ∧ n = .int .i64 (cap31 (dval 0 (l.take j)) : Nat)
set_option maxHeartbeats 4000000 in
set_option maxRecDepth 100000 in
theorem rnum_any (s : ByteArray) (w : World) (hs : s.size ≤ 281474976710656) (hd : s.data.toList.all dig = true) :
    Calls Tryz.prog 122 #[.string s] w (fun e w' => e = .returned (.int .i64 (cap31 (dval 0 s.data.toList) : Nat)) ∧ w' = w) := by
  have HD := Lib.hid hd
  clear hd
  go_enter Tryz.func122, Tryz.ntmps122
  go_wp2
  go_loop [3, 4] (fun n i => CpRel s.data.toList n i) (fun _ i => tokMb s.size i)
  case atStart => exact ⟨0, by omega, rfl, rfl⟩
  case round =>
    obtain ⟨j, hj, rfl, rfl⟩ := hrel
    rw [list_size] at hj
    by_cases hjl : j < s.size
    · have hst := dval_take (L := s.data.toList) (j := j) (by rw [list_size]; exact hjl)
      have hk : 48 ≤ (s.data.toList.getD j 0).toNat ∧ (s.data.toList.getD j 0).toNat ≤ 57 := by
        have hm : s.data.toList.getD j 0 ∈ s.data.toList := by
          rw [low_getD hjl]; have := low_get' s j hjl; exact List.mem_of_getElem? this
        exact dig_iff.1 (List.all_eq_true.1 HD.out _ hm)
      rw [low_getD hjl] at hst hk
      obtain ⟨b, hb⟩ : ∃ b : UInt8, b = s[j]'hjl := ⟨_, rfl⟩
      rw [← hb] at hst hk
      have hgt : ∀ h : j < s.size, s[j]'h = b := fun h => hb.symm
      obtain ⟨u, hu⟩ : ∃ u, u = dval 0 (s.data.toList.take j) := ⟨_, rfl⟩
      rw [← hu] at hst ⊢
      have hcu : cap31 u ≤ 2147483648 := by unfold cap31; omega
      have HST := Lib.hid (show cap31 (dval 0 (s.data.toList.take (j + 1))) = min (10 * cap31 u + (b.toNat - 48)) 2147483648 by rw [hst]; unfold cap31; omega)
      obtain ⟨v, hv⟩ : ∃ v, v = cap31 u := ⟨_, rfl⟩
      rw [← hv] at hcu HST ⊢
      clear hst hb hu hv
      go_wp2
      exact ⟨⟨j + 1, by rw [list_size]; omega, rfl, by rw [HST.out]; congr 1; omega⟩, by simp only [tokMb]; omega⟩
    · obtain rfl : j = s.size := by omega
      have hni : ¬ ((s.size : Int) < (s.size : Int)) := by omega
      go_wp2
      go_ret
      exact ⟨ret_int (by rw [← list_size, List.take_length]), rfl⟩
theorem dated_no {l : List UInt8} {i : Nat} {c f : UInt8} (h0 : l.head? = some 64) (hl : 11 ≤ l.length) (hc : l[i]? = some c) (hf : formL[i]? = some f) (hk : fit f c = false) : dated l = false := by
  rw [Bool.eq_false_iff]
  intro h
  rw [(dated_fit h0 hl).1 h i c f hc hf] at hk
  cases hk
def DdRel (l : List UInt8) (i : Value) : Prop := ∃ j, 1 ≤ j ∧ j ≤ 11 ∧ i = .int .i64 (j : Nat) ∧ FitTo l j
set_option maxHeartbeats 4000000 in
set_option maxRecDepth 100000 in
theorem rdated_any (s : ByteArray) (w : World) (h0 : s.data.toList.head? = some 64) (hs : s.size ≤ 281474976710656) : Calls Tryz.prog 123 #[.string s] w (BQ (dated s.data.toList) w) := by
  by_cases hl : 11 ≤ s.size
  · have hll : 11 ≤ s.data.toList.length := by rw [list_size]; exact hl
    have H0 := Lib.hid h0
    have HLL := Lib.hid hll
    have HDI := Lib.hid (fun c X => rdigit_any c X)
    have h11 : ¬ (s.size : Int) < 11 := by omega
    clear h0 hll
    go_enter Tryz.func123, Tryz.ntmps123
    go_wp2
    go_loop [3] (fun i => DdRel s.data.toList i) (fun i => tokMb 11 i)
    case atStart => exact ⟨1, by omega, by omega, rfl, fun j c f hj hc hf => by
      obtain rfl : j = 0 := by omega
      have e : c = 64 := by
        have := H0.out
        rw [List.head?_eq_getElem?, hc] at this
        exact Option.some.inj this
      obtain rfl : (64 : UInt8) = f := Option.some.inj hf
      rw [e]; decide⟩
    case round =>
      obtain ⟨i, h1, hi, rfl, hf⟩ := hrel
      have HF := Lib.hid hf
      clear hf
      by_cases hil : i < 11
      · have hsz : i < s.size := by omega
        have hc := low_get' s i hsz
        obtain ⟨b, hb⟩ : ∃ b : UInt8, b = s[i]'hsz := ⟨_, rfl⟩
        rw [← hb] at hc
        have hgt : ∀ h : i < s.size, s[i]'h = b := fun h => hb.symm
        have HC := Lib.hid hc
        have HDB := Lib.hid (HDI.out b)
        clear hc hb
        by_cases hd : i = 5 ∨ i = 8
        · have hff : formL[i]? = some 45 := by rcases hd with rfl | rfl <;> rfl
          have HFF := Lib.hid hff
          clear hff
          by_cases hb45 : b.toNat = 45
          · have g45 : ((b.toNat : Int) != 45) = false := by rw [bne_eq_false_iff_eq]; omega
            have HN := Lib.hid (fit_step HF.out HC.out HFF.out (by rw [UInt8.toNat_inj.1 (show b.toNat = (45 : UInt8).toNat from hb45)]; decide))
            clear hb45
            rcases hd with rfl | rfl
            · go_wp2
              exact ⟨⟨6, by omega, by omega, rfl, HN.out⟩, by simp only [tokMb]; omega⟩
            · go_wp2
              exact ⟨⟨9, by omega, by omega, rfl, HN.out⟩, by simp only [tokMb]; omega⟩
          · have g45 : ((b.toNat : Int) != 45) = true := by rw [bne_iff_ne]; omega
            have HN := Lib.hid (dated_no H0.out HLL.out HC.out HFF.out (by
              simp only [fit]
              rw [if_neg (by decide)]
              exact decide_eq_false fun h => hb45 (by rw [h]; rfl)))
            clear hb45
            rcases hd with rfl | rfl
            · go_wp2
              go_ret
              exact ⟨ret_bool HN.out.symm, rfl⟩
            · go_wp2
              go_ret
              exact ⟨ret_bool HN.out.symm, rfl⟩
        · have g5 : ((i : Int) == 5) = false := by rw [beq_eq_false_iff_ne]; omega
          have g8 : ((i : Int) == 8) = false := by rw [beq_eq_false_iff_ne]; omega
          have hff : formL[i]? = some 100 := by
            rcases (by omega : i = 1 ∨ i = 2 ∨ i = 3 ∨ i = 4 ∨ i = 6 ∨ i = 7 ∨ i = 9 ∨ i = 10) with rfl | rfl | rfl | rfl | rfl | rfl | rfl | rfl <;> rfl
          have HFF := Lib.hid hff
          clear hff hd
          cases hdg : dig b with
          | true =>
            have HN := Lib.hid (fit_step HF.out HC.out HFF.out (by simp only [fit, if_true]; exact hdg))
            rw [hdg] at HDB
            clear hdg
            go_wp2_with (first | (go_at_call 121; refine (HDB.out _).mono ?_; rintro e w1 ⟨rfl, rfl⟩))
            exact ⟨⟨i + 1, by omega, by omega, rfl, HN.out⟩, by simp only [tokMb]; omega⟩
          | false =>
            have HN := Lib.hid (dated_no H0.out HLL.out HC.out HFF.out (by simp only [fit, if_true]; exact hdg))
            rw [hdg] at HDB
            clear hdg
            go_wp2_with (first | (go_at_call 121; refine (HDB.out _).mono ?_; rintro e w1 ⟨rfl, rfl⟩))
            go_ret
            exact ⟨ret_bool HN.out.symm, rfl⟩
      · obtain rfl : i = 11 := by omega
        have HN := Lib.hid (fit_all H0.out HLL.out HF.out)
        go_wp2
        go_ret
        exact ⟨ret_bool HN.out.symm, rfl⟩
  · have HN := Lib.hid (show dated s.data.toList = false by unfold dated; rw [decide_eq_false (by rw [list_size]; exact hl)]; rfl)
    have h11 : (s.size : Int) < 11 := by omega
    clear h0 hl
    go_enter Tryz.func123, Tryz.ntmps123
    go_wp2
    go_ret
    exact ⟨ret_bool HN.out.symm, rfl⟩
theorem two_list (s : ByteArray) (c : UInt8) (r : List UInt8) (hl : s.data.toList = c :: r) : (s.extract 0 2).toList = c :: r.take 1 := by
  rw [ByteArray.toList_eq, extract_list, hl]; rfl
theorem two_eq {c a : UInt8} {r : List UInt8} : c :: r.take 1 = [a, 61] ↔ c = a ∧ r.head? = some 61 := by
  cases r <;> simp
theorem all_at : ∀ i, i < 12 → ∃ x, symL[i]? = some x ∧ ∀ h : i < (⟨#[123, 125, 40, 41, 59, 44, 43, 45, 42, 60, 61, 62]⟩ : ByteArray).size, (⟨#[123, 125, 40, 41, 59, 44, 43, 45, 42, 60, 61, 62]⟩ : ByteArray)[i]'h = x := by
  intro i hi
  rcases (by omega : i = 0 ∨ i = 1 ∨ i = 2 ∨ i = 3 ∨ i = 4 ∨ i = 5 ∨ i = 6 ∨ i = 7 ∨ i = 8 ∨ i = 9 ∨ i = 10 ∨ i = 11) with rfl | rfl | rfl | rfl | rfl | rfl | rfl | rfl | rfl | rfl | rfl | rfl <;> exact ⟨_, rfl, fun _ => rfl⟩
def SyRel (c : UInt8) (i : Value) : Prop := ∃ j, j ≤ 12 ∧ i = .int .i64 (j : Nat) ∧ c ∉ symL.take j
theorem sym_in {c : UInt8} {r : List UInt8} (h : ¬ ((c = 60 ∨ c = 33 ∨ c = 62) ∧ r.head? = some 61)) (hm : c ∈ symL) : symN (c :: r) = 1 := by
  rw [symN_cons, if_neg h, if_pos (by simpa [symL] using hm)]
theorem sym_out {c : UInt8} {r : List UInt8} (h : ¬ ((c = 60 ∨ c = 33 ∨ c = 62) ∧ r.head? = some 61)) (hm : c ∉ symL) : symN (c :: r) = 0 := by
  rw [symN_cons, if_neg h, if_neg (fun h => hm (by simpa [symL] using h))]
set_option maxHeartbeats 4000000 in
set_option maxRecDepth 100000 in
theorem rsym_any (s : ByteArray) (w : World) (hs : s.size ≤ 281474976710656) (h0 : 0 < s.size) :
    Calls Tryz.prog 125 #[.string s] w (fun e w' => e = .returned (.int .i64 (symN s.data.toList : Nat)) ∧ Ext w w') := by
  have hl := get_list s 0 h0
  rw [List.drop_zero] at hl
  obtain ⟨c, hc⟩ : ∃ c : UInt8, c = s[0]'h0 := ⟨_, rfl⟩
  rw [← hc] at hl
  have hgt : ∀ h : 0 < s.size, s[0]'h = c := fun h => hc.symm
  obtain ⟨r, hr⟩ : ∃ r, r = s.data.toList.drop (0 + 1) := ⟨_, rfl⟩
  rw [← hr] at hl
  have h2l := two_list s c r hl
  have HL := Lib.hid hl
  have hz : s.size = r.length + 1 := by rw [← list_size, hl, List.length_cons]
  clear hl hc hr
  by_cases h2 : 2 ≤ s.size
  · have h2' : (2 : Int) ≤ (s.size : Int) := by omega
    rw [show ∀ p q : List UInt8, (p = q) = (p = q) from fun _ _ => rfl] at h2l
    have H2L := Lib.hid h2l
    have e2 : ∀ a : UInt8, (s.extract 0 2).toList = [a, 61] ↔ c = a ∧ r.head? = some 61 := fun a => by rw [H2L.out, two_eq]
    clear h2l hz
    by_cases t60 : (s.extract 0 2).toList = [60, 61]
    · have HF := Lib.hid (show symN (c :: r) = 2 by
        obtain ⟨rfl, h⟩ := (e2 60).1 t60
        rw [symN_cons, if_pos ⟨.inl rfl, h⟩])
      clear e2
      go_enter Tryz.func125, Tryz.ntmps125
      go_wp2
      go_ret
      exact ⟨ret_int (by rw [HL.out, HF.out]; rfl), Ext.refl _⟩
    · have b60 : ((s.extract 0 2).toList == [60, 61]) = false := by rw [beq_eq_false_iff_ne]; exact t60
      by_cases t33 : (s.extract 0 2).toList = [33, 61]
      · have HF := Lib.hid (show symN (c :: r) = 2 by
          obtain ⟨rfl, h⟩ := (e2 33).1 t33
          rw [symN_cons, if_pos ⟨.inr (.inl rfl), h⟩])
        clear e2
        go_enter Tryz.func125, Tryz.ntmps125
        go_wp2
        go_ret
        exact ⟨ret_int (by rw [HL.out, HF.out]; rfl), Ext.refl _⟩
      · have b33 : ((s.extract 0 2).toList == [33, 61]) = false := by rw [beq_eq_false_iff_ne]; exact t33
        by_cases t62 : (s.extract 0 2).toList = [62, 61]
        · have HF := Lib.hid (show symN (c :: r) = 2 by
            obtain ⟨rfl, h⟩ := (e2 62).1 t62
            rw [symN_cons, if_pos ⟨.inr (.inr rfl), h⟩])
          clear e2
          go_enter Tryz.func125, Tryz.ntmps125
          go_wp2
          go_ret
          exact ⟨ret_int (by rw [HL.out, HF.out]; rfl), Ext.refl _⟩
        · have b62 : ((s.extract 0 2).toList == [62, 61]) = false := by rw [beq_eq_false_iff_ne]; exact t62
          have HNO := Lib.hid (show ¬ ((c = 60 ∨ c = 33 ∨ c = 62) ∧ r.head? = some 61) by
            rintro ⟨h | h | h, h4⟩
            · exact t60 ((e2 60).2 ⟨h, h4⟩)
            · exact t33 ((e2 33).2 ⟨h, h4⟩)
            · exact t62 ((e2 62).2 ⟨h, h4⟩))
          clear e2 t60 t33 t62
          go_enter Tryz.func125, Tryz.ntmps125
          go_wp2
          go_loopw [5] (fun i w' => SyRel c i ∧ Ext w w') (fun i _ => tokMb 12 i)
          case atStart => exact ⟨⟨0, by omega, rfl, by simp⟩, Ext.refl _⟩
          case round =>
            obtain ⟨⟨i, hi, rfl, hn⟩, hxr⟩ := hrel
            have HN := Lib.hid hn
            clear hn
            by_cases hil : i < 12
            · obtain ⟨x, hx, hall⟩ := all_at i hil
              have HX := Lib.hid hx
              clear hx
              by_cases hcx : c.toNat = x.toNat
              · have gcx : ((c.toNat : Int) == (x.toNat : Int)) = true := by rw [beq_iff_eq]; omega
                have HF := Lib.hid (sym_in HNO.out (by rw [UInt8.toNat_inj.1 hcx]; exact List.mem_of_getElem? HX.out))
                clear hcx
                go_wp2
                go_quiet (fail)
                go_wp2
                go_ret
                exact ⟨ret_int (by rw [HL.out, HF.out]; rfl), hxr.drewN _⟩
              · have gcx : ((c.toNat : Int) == (x.toNat : Int)) = false := by rw [beq_eq_false_iff_ne]; omega
                have HF := Lib.hid (show c ∉ symL.take (i + 1) by
                  rw [List.take_add_one, HX.out]
                  intro h
                  rcases List.mem_append.1 h with h | h
                  · exact HN.out h
                  · exact hcx (by rw [show c = x by simpa using h]))
                clear hcx
                go_wp2
                go_quiet (fail)
                go_wp2
                exact ⟨⟨⟨i + 1, by omega, rfl, HF.out⟩, hxr.drewN _⟩, by simp only [tokMb]; omega⟩
            · obtain rfl : i = 12 := by omega
              have HF := Lib.hid (sym_out HNO.out HN.out)
              go_wp2
              go_ret
              exact ⟨ret_int (by rw [HL.out, HF.out]; rfl), hxr⟩
  · have h2' : ¬ (2 : Int) ≤ (s.size : Int) := by omega
    have HNO := Lib.hid (show ¬ ((c = 60 ∨ c = 33 ∨ c = 62) ∧ r.head? = some 61) by
      rintro ⟨_, h⟩
      cases r with
      | nil => cases h
      | cons => rw [List.length_cons] at hz; omega)
    clear h2l hz
    go_enter Tryz.func125, Tryz.ntmps125
    go_wp2
    go_loopw [5] (fun i w' => SyRel c i ∧ Ext w w') (fun i _ => tokMb 12 i)
    case atStart => exact ⟨⟨0, by omega, rfl, by simp⟩, Ext.refl _⟩
    case round =>
      obtain ⟨⟨i, hi, rfl, hn⟩, hxr⟩ := hrel
      have HN := Lib.hid hn
      clear hn
      by_cases hil : i < 12
      · obtain ⟨x, hx, hall⟩ := all_at i hil
        have HX := Lib.hid hx
        clear hx
        by_cases hcx : c.toNat = x.toNat
        · have gcx : ((c.toNat : Int) == (x.toNat : Int)) = true := by rw [beq_iff_eq]; omega
          have HF := Lib.hid (sym_in HNO.out (by rw [UInt8.toNat_inj.1 hcx]; exact List.mem_of_getElem? HX.out))
          clear hcx
          go_wp2
          go_quiet (fail)
          go_wp2
          go_ret
          exact ⟨ret_int (by rw [HL.out, HF.out]; rfl), hxr.drewN _⟩
        · have gcx : ((c.toNat : Int) == (x.toNat : Int)) = false := by rw [beq_eq_false_iff_ne]; omega
          have HF := Lib.hid (show c ∉ symL.take (i + 1) by
            rw [List.take_add_one, HX.out]
            intro h
            rcases List.mem_append.1 h with h | h
            · exact HN.out h
            · exact hcx (by rw [show c = x by simpa using h]))
          clear hcx
          go_wp2
          go_quiet (fail)
          go_wp2
          exact ⟨⟨⟨i + 1, by omega, rfl, HF.out⟩, hxr.drewN _⟩, by simp only [tokMb]; omega⟩
      · obtain rfl : i = 12 := by omega
        have HF := Lib.hid (sym_out HNO.out HN.out)
        go_wp2
        go_ret
        exact ⟨ret_int (by rw [HL.out, HF.out]; rfl), hxr⟩
end Go.Proofs.YtnpenepdechkjaaGreatDoor

/- The contract of the reference's 'token'. -/
namespace Go.Proofs.YtnpenepdechkjaaGreatDoor
open Go Go.RowKit

def HwRel (p : UInt8 → Bool) (l : List UInt8) (n : Value) : Prop := ∃ j, j ≤ l.length ∧ n = .int .i64 (j : Nat) ∧ j + twn p (l.drop j) = twn p l
set_option maxHeartbeats 4000000 in
set_option maxRecDepth 100000 in
theorem rtok_word (s : ByteArray) (w : World) (hs : s.size ≤ 281474976710656) (h0 : 0 < s.size) (hlo : low (s[0]'h0) = true) : Calls Tryz.prog 81 #[.string s] w (TPost (wordT s.data.toList) s w) := by
  obtain ⟨c, hc⟩ : ∃ c : UInt8, c = s[0]'h0 := ⟨_, rfl⟩
  rw [← hc] at hlo
  have hgt : ∀ h : 0 < s.size, s[0]'h = c := fun h => hc.symm
  clear hc
  have HC0 := Lib.hid (fun X => rletter_any c X)
  rw [hlo] at HC0
  clear hlo
  have HLL := Lib.hid (fun b X => rletter_any b X)
  have HDD := Lib.hid (fun b X => rdigit_any b X)
  have hz := twn_size wch s
  obtain ⟨N, hN⟩ : ∃ N, N = twn wch s.data.toList := ⟨_, rfl⟩
  rw [← hN] at hz
  have HNN := Lib.hid hN
  clear hN
  by_cases h12 : 12 < N
  · have h12' : (12 : Int) < (N : Int) := by omega
    have HT := Lib.hid (show wordT s.data.toList = .err 2 by rw [wordT, ← HNN.out, if_pos h12])
    go_enter Tryz.func81, Tryz.ntmps81
    go_wp2_with (first | (go_at_call 120; refine (HC0.out _).mono ?_; rintro e w1 ⟨rfl, rfl⟩))
    go_loop [4] (fun n => HwRel wch s.data.toList n) (fun n => tokMb s.size n)
    case atStart => exact ⟨0, by omega, rfl, by rw [List.drop_zero, Nat.zero_add]⟩
    case round =>
      obtain ⟨j, hj, rfl, hn⟩ := hrel
      have HN := Lib.hid hn
      rw [list_size] at hj
      clear hn
      by_cases hjl : j < s.size
      · have hlj := get_list s j hjl
        obtain ⟨b, hb⟩ : ∃ b : UInt8, b = s[j]'hjl := ⟨_, rfl⟩
        rw [← hb] at hlj
        have hgj : ∀ h : j < s.size, s[j]'h = b := fun h => hb.symm
        have HLJ := Lib.hid hlj
        clear hlj hb
        have HLB := Lib.hid (HLL.out b)
        have HDB := Lib.hid (HDD.out b)
        cases hlo : low b with
        | true =>
          rw [hlo] at HLB
          have HF := Lib.hid (show j + 1 + twn wch (s.data.toList.drop (j + 1)) = twn wch s.data.toList by rw [← HN.out, HLJ.out, twn_go (by simp [wch, hlo])]; omega)
          clear hlo
          go_wp2_with (first | (go_at_call 120; refine (HLB.out _).mono ?_; rintro e w1 ⟨rfl, rfl⟩) | (go_at_call 121; refine (HDB.out _).mono ?_; rintro e w1 ⟨rfl, rfl⟩))
          exact ⟨⟨j + 1, by rw [list_size]; omega, rfl, HF.out⟩, by simp only [tokMb]; omega⟩
        | false =>
          rw [hlo] at HLB
          cases hdi : dig b with
          | true =>
            rw [hdi] at HDB
            have HF := Lib.hid (show j + 1 + twn wch (s.data.toList.drop (j + 1)) = twn wch s.data.toList by rw [← HN.out, HLJ.out, twn_go (by simp [wch, hdi])]; omega)
            clear hlo hdi
            go_wp2_with (first | (go_at_call 120; refine (HLB.out _).mono ?_; rintro e w1 ⟨rfl, rfl⟩) | (go_at_call 121; refine (HDB.out _).mono ?_; rintro e w1 ⟨rfl, rfl⟩))
            exact ⟨⟨j + 1, by rw [list_size]; omega, rfl, HF.out⟩, by simp only [tokMb]; omega⟩
          | false =>
            rw [hdi] at HDB
            obtain rfl : j = N := by rw [HNN.out, ← HN.out]; rw [HLJ.out, twn_stop (by simp [wch, hlo, hdi])]; rfl
            clear hlo hdi
            go_wp2_with (first | (go_at_call 120; refine (HLB.out _).mono ?_; rintro e w1 ⟨rfl, rfl⟩) | (go_at_call 121; refine (HDB.out _).mono ?_; rintro e w1 ⟨rfl, rfl⟩))
            refine bodyPost_ret (v := .tuple #[.agg #[.int .i64 0, .int .i64 0, .string ⟨#[]⟩, .int .i64 0], .int .i64 2]) (by simp [results, Tryz.results81, go_sem, *]) rfl ?_
            exact tpost_err HT.out rfl ((Ext.refl w).alloc _)
      · obtain rfl : j = N := by
          rw [HNN.out, ← HN.out, show j = s.size by omega, drop_end s s.size (by omega)]; rfl
        have hje : ¬ ((j : Int) < (s.size : Int)) := by omega
        go_wp2_with (first | (go_at_call 120; refine (HLL.out _ _).mono ?_; rintro e w1 ⟨rfl, rfl⟩) | (go_at_call 121; refine (HDD.out _ _).mono ?_; rintro e w1 ⟨rfl, rfl⟩))
        refine bodyPost_ret (v := .tuple #[.agg #[.int .i64 0, .int .i64 0, .string ⟨#[]⟩, .int .i64 0], .int .i64 2]) (by simp [results, Tryz.results81, go_sem, *]) rfl ?_
        exact tpost_err HT.out rfl ((Ext.refl w).alloc _)
  · have h12' : ¬ (12 : Int) < (N : Int) := by omega
    have HT := Lib.hid (show wordT s.data.toList = .ok 1 N 0 by rw [wordT, ← HNN.out, if_neg h12])
    go_enter Tryz.func81, Tryz.ntmps81
    go_wp2_with (first | (go_at_call 120; refine (HC0.out _).mono ?_; rintro e w1 ⟨rfl, rfl⟩))
    go_loop [4] (fun n => HwRel wch s.data.toList n) (fun n => tokMb s.size n)
    case atStart => exact ⟨0, by omega, rfl, by rw [List.drop_zero, Nat.zero_add]⟩
    case round =>
      obtain ⟨j, hj, rfl, hn⟩ := hrel
      have HN := Lib.hid hn
      rw [list_size] at hj
      clear hn
      by_cases hjl : j < s.size
      · have hlj := get_list s j hjl
        obtain ⟨b, hb⟩ : ∃ b : UInt8, b = s[j]'hjl := ⟨_, rfl⟩
        rw [← hb] at hlj
        have hgj : ∀ h : j < s.size, s[j]'h = b := fun h => hb.symm
        have HLJ := Lib.hid hlj
        clear hlj hb
        have HLB := Lib.hid (HLL.out b)
        have HDB := Lib.hid (HDD.out b)
        cases hlo : low b with
        | true =>
          rw [hlo] at HLB
          have HF := Lib.hid (show j + 1 + twn wch (s.data.toList.drop (j + 1)) = twn wch s.data.toList by rw [← HN.out, HLJ.out, twn_go (by simp [wch, hlo])]; omega)
          clear hlo
          go_wp2_with (first | (go_at_call 120; refine (HLB.out _).mono ?_; rintro e w1 ⟨rfl, rfl⟩) | (go_at_call 121; refine (HDB.out _).mono ?_; rintro e w1 ⟨rfl, rfl⟩))
          exact ⟨⟨j + 1, by rw [list_size]; omega, rfl, HF.out⟩, by simp only [tokMb]; omega⟩
        | false =>
          rw [hlo] at HLB
          cases hdi : dig b with
          | true =>
            rw [hdi] at HDB
            have HF := Lib.hid (show j + 1 + twn wch (s.data.toList.drop (j + 1)) = twn wch s.data.toList by rw [← HN.out, HLJ.out, twn_go (by simp [wch, hdi])]; omega)
            clear hlo hdi
            go_wp2_with (first | (go_at_call 120; refine (HLB.out _).mono ?_; rintro e w1 ⟨rfl, rfl⟩) | (go_at_call 121; refine (HDB.out _).mono ?_; rintro e w1 ⟨rfl, rfl⟩))
            exact ⟨⟨j + 1, by rw [list_size]; omega, rfl, HF.out⟩, by simp only [tokMb]; omega⟩
          | false =>
            rw [hdi] at HDB
            obtain rfl : j = N := by rw [HNN.out, ← HN.out]; rw [HLJ.out, twn_stop (by simp [wch, hlo, hdi])]; rfl
            clear hlo hdi
            go_wp2_with (first | (go_at_call 120; refine (HLB.out _).mono ?_; rintro e w1 ⟨rfl, rfl⟩) | (go_at_call 121; refine (HDB.out _).mono ?_; rintro e w1 ⟨rfl, rfl⟩))
            refine bodyPost_ret (v := .tuple #[.agg #[.int .i64 1, .int .i64 0, .string (s.extract 0 j), .int .i64 0], .int .i64 0]) (by simp [results, Tryz.results81, go_sem, *]) rfl ?_
            exact tpost_ok HT.out rfl rfl (extract_take _ _) ((Ext.refl w).alloc _)
      · obtain rfl : j = N := by
          rw [HNN.out, ← HN.out, show j = s.size by omega, drop_end s s.size (by omega)]; rfl
        have hje : ¬ ((j : Int) < (s.size : Int)) := by omega
        go_wp2_with (first | (go_at_call 120; refine (HLL.out _ _).mono ?_; rintro e w1 ⟨rfl, rfl⟩) | (go_at_call 121; refine (HDD.out _ _).mono ?_; rintro e w1 ⟨rfl, rfl⟩))
        refine bodyPost_ret (v := .tuple #[.agg #[.int .i64 1, .int .i64 0, .string (s.extract 0 j), .int .i64 0], .int .i64 0]) (by simp [results, Tryz.results81, go_sem, *]) rfl ?_
        exact tpost_ok HT.out rfl rfl (extract_take _ _) ((Ext.refl w).alloc _)
set_option maxHeartbeats 4000000 in
set_option maxRecDepth 100000 in
theorem rtok_numA (s : ByteArray) (w : World) (hs : s.size ≤ 281474976710656) (h0 : 0 < s.size) (hlo : low (s[0]'h0) = false) (hdi : dig (s[0]'h0) = true) (hA : 1 < twn dig s.data.toList ∧ s[0]'h0 = 48) : Calls Tryz.prog 81 #[.string s] w (TPost (numT s.data.toList) s w) := by
  have hl := get_list s 0 h0
  rw [List.drop_zero] at hl
  obtain ⟨c, hc⟩ : ∃ c : UInt8, c = s[0]'h0 := ⟨_, rfl⟩
  rw [← hc] at hlo hdi hl hA
  have hgt : ∀ h : 0 < s.size, s[0]'h = c := fun h => hc.symm
  clear hc
  have HC0 := Lib.hid (fun X => rletter_any c X)
  rw [hlo] at HC0
  have HC1 := Lib.hid (fun X => rdigit_any c X)
  rw [hdi] at HC1
  have HDD := Lib.hid (fun b X => rdigit_any b X)
  have hz := twn_size dig s
  have hz1 : 1 ≤ twn dig s.data.toList := by rw [hl, twn_go hdi]; omega
  have HL := Lib.hid hl
  clear hlo hdi hl
  have hex : (s.extract 0 (twn dig s.data.toList)).data.toList = s.data.toList.takeWhile dig := by rw [extract_take, take_twn]
  have hrn := fun X => rnum_any (s.extract 0 (twn dig s.data.toList)) X (by rw [ByteArray.size_extract]; omega) (by rw [hex]; exact tw_all dig _)
  rw [hex] at hrn
  have hnt : numT s.data.toList = if 1 < twn dig s.data.toList ∧ c = 48 then .err 20 else if 2147483647 < dval 0 (s.data.toList.takeWhile dig) then .err 5 else .ok 2 (twn dig s.data.toList) (dval 0 (s.data.toList.takeWhile dig)) := by
    rw [numT, HL.out, List.head?_cons, ← HL.out]; simp only [Option.some.injEq]
  clear hex
  obtain ⟨V, hV⟩ : ∃ V, V = dval 0 (s.data.toList.takeWhile dig) := ⟨_, rfl⟩
  obtain ⟨N, hN⟩ : ∃ N, N = twn dig s.data.toList := ⟨_, rfl⟩
  rw [← hV] at hrn hnt
  rw [← hN] at hrn hnt hz hz1
  try rw [← hN] at hA
  try rw [← hV] at hm
  have HNN := Lib.hid hN
  have HRN := Lib.hid hrn
  have HNT := Lib.hid hnt
  clear hN hrn hV hnt
  have HT := Lib.hid (show numT s.data.toList = .err 20 by rw [HNT.out, if_pos hA])
  obtain ⟨h1, h48⟩ := hA
  have g1 : (1 : Int) < (N : Int) := by omega
  have g48 : ((c.toNat : Int) == 48) = true := by rw [h48]; rfl
  clear h48
  go_enter Tryz.func81, Tryz.ntmps81
  go_wp2_with (first | (go_at_call 120; refine (HC0.out _).mono ?_; rintro e w1 ⟨rfl, rfl⟩) | (go_at_call 121; refine (HC1.out _).mono ?_; rintro e w1 ⟨rfl, rfl⟩))
  go_loop [4] (fun n => HwRel dig s.data.toList n) (fun n => tokMb s.size n)
  case atStart => exact ⟨0, by omega, rfl, by rw [List.drop_zero, Nat.zero_add]⟩
  case round =>
    obtain ⟨j, hj, rfl, hn⟩ := hrel
    have HN := Lib.hid hn
    rw [list_size] at hj
    clear hn
    by_cases hjl : j < s.size
    · have hlj := get_list s j hjl
      obtain ⟨b, hb⟩ : ∃ b : UInt8, b = s[j]'hjl := ⟨_, rfl⟩
      rw [← hb] at hlj
      have hgj : ∀ h : j < s.size, s[j]'h = b := fun h => hb.symm
      have HLJ := Lib.hid hlj
      clear hlj hb
      have HDB := Lib.hid (HDD.out b)
      cases hdi : dig b with
      | true =>
        rw [hdi] at HDB
        have HF := Lib.hid (show j + 1 + twn dig (s.data.toList.drop (j + 1)) = twn dig s.data.toList by rw [← HN.out, HLJ.out, twn_go hdi]; omega)
        clear hdi
        go_wp2_with (first | (go_at_call 121; refine (HDB.out _).mono ?_; rintro e w1 ⟨rfl, rfl⟩))
        exact ⟨⟨j + 1, by rw [list_size]; omega, rfl, HF.out⟩, by simp only [tokMb]; omega⟩
      | false =>
        rw [hdi] at HDB
        obtain rfl : j = N := by rw [HNN.out, ← HN.out]; rw [HLJ.out, twn_stop hdi]; rfl
        clear hdi
        go_wp2_with (first | (go_at_call 121; refine (HDB.out _).mono ?_; rintro e w1 ⟨rfl, rfl⟩) | (go_at_call 122; refine (HRN.out _).mono ?_; rintro e w1 ⟨rfl, rfl⟩))
        refine bodyPost_ret (v := .tuple #[.agg #[.int .i64 0, .int .i64 0, .string ⟨#[]⟩, .int .i64 0], .int .i64 20]) (by simp [results, Tryz.results81, go_sem, *]) rfl ?_
        exact tpost_err HT.out rfl ((Ext.refl w).alloc _)
    · obtain rfl : j = N := by
        rw [HNN.out, ← HN.out, show j = s.size by omega, drop_end s s.size (by omega)]; rfl
      have hje : ¬ ((j : Int) < (s.size : Int)) := by omega
      go_wp2_with (first | (go_at_call 122; refine (HRN.out _).mono ?_; rintro e w1 ⟨rfl, rfl⟩))
      refine bodyPost_ret (v := .tuple #[.agg #[.int .i64 0, .int .i64 0, .string ⟨#[]⟩, .int .i64 0], .int .i64 20]) (by simp [results, Tryz.results81, go_sem, *]) rfl ?_
      exact tpost_err HT.out rfl ((Ext.refl w).alloc _)
set_option maxHeartbeats 4000000 in
set_option maxRecDepth 100000 in
theorem rtok_numB1 (s : ByteArray) (w : World) (hs : s.size ≤ 281474976710656) (h0 : 0 < s.size) (hlo : low (s[0]'h0) = false) (hdi : dig (s[0]'h0) = true) (hA : ¬ 1 < twn dig s.data.toList ∧ s[0]'h0 = s[0]'h0) (hm : 2147483647 < dval 0 (s.data.toList.takeWhile dig)) : Calls Tryz.prog 81 #[.string s] w (TPost (numT s.data.toList) s w) := by
  have hl := get_list s 0 h0
  rw [List.drop_zero] at hl
  obtain ⟨c, hc⟩ : ∃ c : UInt8, c = s[0]'h0 := ⟨_, rfl⟩
  rw [← hc] at hlo hdi hl hA
  have hgt : ∀ h : 0 < s.size, s[0]'h = c := fun h => hc.symm
  clear hc
  have HC0 := Lib.hid (fun X => rletter_any c X)
  rw [hlo] at HC0
  have HC1 := Lib.hid (fun X => rdigit_any c X)
  rw [hdi] at HC1
  have HDD := Lib.hid (fun b X => rdigit_any b X)
  have hz := twn_size dig s
  have hz1 : 1 ≤ twn dig s.data.toList := by rw [hl, twn_go hdi]; omega
  have HL := Lib.hid hl
  clear hlo hdi hl
  have hex : (s.extract 0 (twn dig s.data.toList)).data.toList = s.data.toList.takeWhile dig := by rw [extract_take, take_twn]
  have hrn := fun X => rnum_any (s.extract 0 (twn dig s.data.toList)) X (by rw [ByteArray.size_extract]; omega) (by rw [hex]; exact tw_all dig _)
  rw [hex] at hrn
  have hnt : numT s.data.toList = if 1 < twn dig s.data.toList ∧ c = 48 then .err 20 else if 2147483647 < dval 0 (s.data.toList.takeWhile dig) then .err 5 else .ok 2 (twn dig s.data.toList) (dval 0 (s.data.toList.takeWhile dig)) := by
    rw [numT, HL.out, List.head?_cons, ← HL.out]; simp only [Option.some.injEq]
  clear hex
  obtain ⟨V, hV⟩ : ∃ V, V = dval 0 (s.data.toList.takeWhile dig) := ⟨_, rfl⟩
  obtain ⟨N, hN⟩ : ∃ N, N = twn dig s.data.toList := ⟨_, rfl⟩
  rw [← hV] at hrn hnt
  rw [← hN] at hrn hnt hz hz1
  try rw [← hN] at hA
  try rw [← hV] at hm
  have HNN := Lib.hid hN
  have HRN := Lib.hid hrn
  have HNT := Lib.hid hnt
  clear hN hrn hV hnt
  have g1 : ¬ (1 : Int) < (N : Int) := by omega
  have hAA : ¬ (1 < N ∧ c = 48) := fun h => hA.1 h.1
  have HT := Lib.hid (show numT s.data.toList = .err 5 by rw [HNT.out, if_neg hAA, if_pos hm])
  have hm' : (2147483647 : Int) < (cap31 V : Nat) := by unfold cap31; omega
  clear hA hAA
  go_enter Tryz.func81, Tryz.ntmps81
  go_wp2_with (first | (go_at_call 120; refine (HC0.out _).mono ?_; rintro e w1 ⟨rfl, rfl⟩) | (go_at_call 121; refine (HC1.out _).mono ?_; rintro e w1 ⟨rfl, rfl⟩))
  go_loop [4] (fun n => HwRel dig s.data.toList n) (fun n => tokMb s.size n)
  case atStart => exact ⟨0, by omega, rfl, by rw [List.drop_zero, Nat.zero_add]⟩
  case round =>
    obtain ⟨j, hj, rfl, hn⟩ := hrel
    have HN := Lib.hid hn
    rw [list_size] at hj
    clear hn
    by_cases hjl : j < s.size
    · have hlj := get_list s j hjl
      obtain ⟨b, hb⟩ : ∃ b : UInt8, b = s[j]'hjl := ⟨_, rfl⟩
      rw [← hb] at hlj
      have hgj : ∀ h : j < s.size, s[j]'h = b := fun h => hb.symm
      have HLJ := Lib.hid hlj
      clear hlj hb
      have HDB := Lib.hid (HDD.out b)
      cases hdi : dig b with
      | true =>
        rw [hdi] at HDB
        have HF := Lib.hid (show j + 1 + twn dig (s.data.toList.drop (j + 1)) = twn dig s.data.toList by rw [← HN.out, HLJ.out, twn_go hdi]; omega)
        clear hdi
        go_wp2_with (first | (go_at_call 121; refine (HDB.out _).mono ?_; rintro e w1 ⟨rfl, rfl⟩))
        exact ⟨⟨j + 1, by rw [list_size]; omega, rfl, HF.out⟩, by simp only [tokMb]; omega⟩
      | false =>
        rw [hdi] at HDB
        obtain rfl : j = N := by rw [HNN.out, ← HN.out]; rw [HLJ.out, twn_stop hdi]; rfl
        clear hdi
        go_wp2_with (first | (go_at_call 121; refine (HDB.out _).mono ?_; rintro e w1 ⟨rfl, rfl⟩) | (go_at_call 122; refine (HRN.out _).mono ?_; rintro e w1 ⟨rfl, rfl⟩))
        refine bodyPost_ret (v := .tuple #[.agg #[.int .i64 0, .int .i64 0, .string ⟨#[]⟩, .int .i64 0], .int .i64 5]) (by simp [results, Tryz.results81, go_sem, *]) rfl ?_
        exact tpost_err HT.out rfl ((Ext.refl w).alloc _)
    · obtain rfl : j = N := by
        rw [HNN.out, ← HN.out, show j = s.size by omega, drop_end s s.size (by omega)]; rfl
      have hje : ¬ ((j : Int) < (s.size : Int)) := by omega
      go_wp2_with (first | (go_at_call 122; refine (HRN.out _).mono ?_; rintro e w1 ⟨rfl, rfl⟩))
      refine bodyPost_ret (v := .tuple #[.agg #[.int .i64 0, .int .i64 0, .string ⟨#[]⟩, .int .i64 0], .int .i64 5]) (by simp [results, Tryz.results81, go_sem, *]) rfl ?_
      exact tpost_err HT.out rfl ((Ext.refl w).alloc _)
set_option maxHeartbeats 4000000 in
set_option maxRecDepth 100000 in
theorem rtok_numB2 (s : ByteArray) (w : World) (hs : s.size ≤ 281474976710656) (h0 : 0 < s.size) (hlo : low (s[0]'h0) = false) (hdi : dig (s[0]'h0) = true) (hA : ¬ 1 < twn dig s.data.toList ∧ s[0]'h0 = s[0]'h0) (hm : ¬ 2147483647 < dval 0 (s.data.toList.takeWhile dig)) : Calls Tryz.prog 81 #[.string s] w (TPost (numT s.data.toList) s w) := by
  have hl := get_list s 0 h0
  rw [List.drop_zero] at hl
  obtain ⟨c, hc⟩ : ∃ c : UInt8, c = s[0]'h0 := ⟨_, rfl⟩
  rw [← hc] at hlo hdi hl hA
  have hgt : ∀ h : 0 < s.size, s[0]'h = c := fun h => hc.symm
  clear hc
  have HC0 := Lib.hid (fun X => rletter_any c X)
  rw [hlo] at HC0
  have HC1 := Lib.hid (fun X => rdigit_any c X)
  rw [hdi] at HC1
  have HDD := Lib.hid (fun b X => rdigit_any b X)
  have hz := twn_size dig s
  have hz1 : 1 ≤ twn dig s.data.toList := by rw [hl, twn_go hdi]; omega
  have HL := Lib.hid hl
  clear hlo hdi hl
  have hex : (s.extract 0 (twn dig s.data.toList)).data.toList = s.data.toList.takeWhile dig := by rw [extract_take, take_twn]
  have hrn := fun X => rnum_any (s.extract 0 (twn dig s.data.toList)) X (by rw [ByteArray.size_extract]; omega) (by rw [hex]; exact tw_all dig _)
  rw [hex] at hrn
  have hnt : numT s.data.toList = if 1 < twn dig s.data.toList ∧ c = 48 then .err 20 else if 2147483647 < dval 0 (s.data.toList.takeWhile dig) then .err 5 else .ok 2 (twn dig s.data.toList) (dval 0 (s.data.toList.takeWhile dig)) := by
    rw [numT, HL.out, List.head?_cons, ← HL.out]; simp only [Option.some.injEq]
  clear hex
  obtain ⟨V, hV⟩ : ∃ V, V = dval 0 (s.data.toList.takeWhile dig) := ⟨_, rfl⟩
  obtain ⟨N, hN⟩ : ∃ N, N = twn dig s.data.toList := ⟨_, rfl⟩
  rw [← hV] at hrn hnt
  rw [← hN] at hrn hnt hz hz1
  try rw [← hN] at hA
  try rw [← hV] at hm
  have HNN := Lib.hid hN
  have HRN := Lib.hid hrn
  have HNT := Lib.hid hnt
  clear hN hrn hV hnt
  have g1 : ¬ (1 : Int) < (N : Int) := by omega
  have hAA : ¬ (1 < N ∧ c = 48) := fun h => hA.1 h.1
  have HT := Lib.hid (show numT s.data.toList = .ok 2 N V by rw [HNT.out, if_neg hAA, if_neg hm])
  have hcv : cap31 V = V := by unfold cap31; omega
  rw [hcv] at HRN
  have hm' : ¬ (2147483647 : Int) < (V : Int) := by omega
  clear hcv hA hAA
  go_enter Tryz.func81, Tryz.ntmps81
  go_wp2_with (first | (go_at_call 120; refine (HC0.out _).mono ?_; rintro e w1 ⟨rfl, rfl⟩) | (go_at_call 121; refine (HC1.out _).mono ?_; rintro e w1 ⟨rfl, rfl⟩))
  go_loop [4] (fun n => HwRel dig s.data.toList n) (fun n => tokMb s.size n)
  case atStart => exact ⟨0, by omega, rfl, by rw [List.drop_zero, Nat.zero_add]⟩
  case round =>
    obtain ⟨j, hj, rfl, hn⟩ := hrel
    have HN := Lib.hid hn
    rw [list_size] at hj
    clear hn
    by_cases hjl : j < s.size
    · have hlj := get_list s j hjl
      obtain ⟨b, hb⟩ : ∃ b : UInt8, b = s[j]'hjl := ⟨_, rfl⟩
      rw [← hb] at hlj
      have hgj : ∀ h : j < s.size, s[j]'h = b := fun h => hb.symm
      have HLJ := Lib.hid hlj
      clear hlj hb
      have HDB := Lib.hid (HDD.out b)
      cases hdi : dig b with
      | true =>
        rw [hdi] at HDB
        have HF := Lib.hid (show j + 1 + twn dig (s.data.toList.drop (j + 1)) = twn dig s.data.toList by rw [← HN.out, HLJ.out, twn_go hdi]; omega)
        clear hdi
        go_wp2_with (first | (go_at_call 121; refine (HDB.out _).mono ?_; rintro e w1 ⟨rfl, rfl⟩))
        exact ⟨⟨j + 1, by rw [list_size]; omega, rfl, HF.out⟩, by simp only [tokMb]; omega⟩
      | false =>
        rw [hdi] at HDB
        obtain rfl : j = N := by rw [HNN.out, ← HN.out]; rw [HLJ.out, twn_stop hdi]; rfl
        clear hdi
        go_upto_region 15 with (first | (go_at_call 121; refine (HDB.out _).mono ?_; rintro e w1 ⟨rfl, rfl⟩) | (go_at_call 122; refine (HRN.out _).mono ?_; rintro e w1 ⟨rfl, rfl⟩))
        have hbx := TBox.new w 0 0 0 ⟨#[]⟩ 46
        have hx0 : Ext w (w.alloc (.cells #[.int .i64 0, .int .i64 0, .string ⟨#[]⟩, .int .i64 0] 46)) := (Ext.refl w).alloc _
        obtain ⟨q0, q1, q2, q3, q4, q5, q6, q7, q8⟩ := hbx
        generalize w.alloc (.cells #[.int .i64 0, .int .i64 0, .string ⟨#[]⟩, .int .i64 0] 46) = w2 at *
        go_region_held3 (fun W => W.frozen? ⟨w.heap.size, 0, none⟩ = false) (go_keep) (first | (go_at_call 122; refine (HRN.out _).mono ?_; rintro e w1 ⟨rfl, rfl⟩))
        go_wp2
        refine bodyPost_ret (v := .tuple #[.agg #[.int .i64 2, .int .i64 0, .string (s.extract 0 j), .int .i64 V], .int .i64 0]) (by simp [results, Tryz.results81, go_sem, *]) rfl ?_
        exact tpost_ok HT.out rfl rfl (extract_take _ _) ((hx0.store4 (Nat.le_refl _) _ _ _ _).drew)
    · obtain rfl : j = N := by
        rw [HNN.out, ← HN.out, show j = s.size by omega, drop_end s s.size (by omega)]; rfl
      have hje : ¬ ((j : Int) < (s.size : Int)) := by omega
      go_upto_region 15 with (first | (go_at_call 122; refine (HRN.out _).mono ?_; rintro e w1 ⟨rfl, rfl⟩))
      have hbx := TBox.new w 0 0 0 ⟨#[]⟩ 46
      have hx0 : Ext w (w.alloc (.cells #[.int .i64 0, .int .i64 0, .string ⟨#[]⟩, .int .i64 0] 46)) := (Ext.refl w).alloc _
      obtain ⟨q0, q1, q2, q3, q4, q5, q6, q7, q8⟩ := hbx
      generalize w.alloc (.cells #[.int .i64 0, .int .i64 0, .string ⟨#[]⟩, .int .i64 0] 46) = w2 at *
      go_region_held3 (fun W => W.frozen? ⟨w.heap.size, 0, none⟩ = false) (go_keep) (first | (go_at_call 122; refine (HRN.out _).mono ?_; rintro e w1 ⟨rfl, rfl⟩))
      go_wp2
      refine bodyPost_ret (v := .tuple #[.agg #[.int .i64 2, .int .i64 0, .string (s.extract 0 j), .int .i64 V], .int .i64 0]) (by simp [results, Tryz.results81, go_sem, *]) rfl ?_
      exact tpost_ok HT.out rfl rfl (extract_take _ _) ((hx0.store4 (Nat.le_refl _) _ _ _ _).drew)
set_option maxHeartbeats 4000000 in
set_option maxRecDepth 100000 in
theorem rtok_numC1 (s : ByteArray) (w : World) (hs : s.size ≤ 281474976710656) (h0 : 0 < s.size) (hlo : low (s[0]'h0) = false) (hdi : dig (s[0]'h0) = true) (hA : 1 < twn dig s.data.toList ∧ s[0]'h0 ≠ 48) (hm : 2147483647 < dval 0 (s.data.toList.takeWhile dig)) : Calls Tryz.prog 81 #[.string s] w (TPost (numT s.data.toList) s w) := by
  have hl := get_list s 0 h0
  rw [List.drop_zero] at hl
  obtain ⟨c, hc⟩ : ∃ c : UInt8, c = s[0]'h0 := ⟨_, rfl⟩
  rw [← hc] at hlo hdi hl hA
  have hgt : ∀ h : 0 < s.size, s[0]'h = c := fun h => hc.symm
  clear hc
  have HC0 := Lib.hid (fun X => rletter_any c X)
  rw [hlo] at HC0
  have HC1 := Lib.hid (fun X => rdigit_any c X)
  rw [hdi] at HC1
  have HDD := Lib.hid (fun b X => rdigit_any b X)
  have hz := twn_size dig s
  have hz1 : 1 ≤ twn dig s.data.toList := by rw [hl, twn_go hdi]; omega
  have HL := Lib.hid hl
  clear hlo hdi hl
  have hex : (s.extract 0 (twn dig s.data.toList)).data.toList = s.data.toList.takeWhile dig := by rw [extract_take, take_twn]
  have hrn := fun X => rnum_any (s.extract 0 (twn dig s.data.toList)) X (by rw [ByteArray.size_extract]; omega) (by rw [hex]; exact tw_all dig _)
  rw [hex] at hrn
  have hnt : numT s.data.toList = if 1 < twn dig s.data.toList ∧ c = 48 then .err 20 else if 2147483647 < dval 0 (s.data.toList.takeWhile dig) then .err 5 else .ok 2 (twn dig s.data.toList) (dval 0 (s.data.toList.takeWhile dig)) := by
    rw [numT, HL.out, List.head?_cons, ← HL.out]; simp only [Option.some.injEq]
  clear hex
  obtain ⟨V, hV⟩ : ∃ V, V = dval 0 (s.data.toList.takeWhile dig) := ⟨_, rfl⟩
  obtain ⟨N, hN⟩ : ∃ N, N = twn dig s.data.toList := ⟨_, rfl⟩
  rw [← hV] at hrn hnt
  rw [← hN] at hrn hnt hz hz1
  try rw [← hN] at hA
  try rw [← hV] at hm
  have HNN := Lib.hid hN
  have HRN := Lib.hid hrn
  have HNT := Lib.hid hnt
  clear hN hrn hV hnt
  have g1 : (1 : Int) < (N : Int) := by omega
  have hAA : ¬ (1 < N ∧ c = 48) := fun h => hA.2 h.2
  have g48 : ((c.toNat : Int) == 48) = false := by rw [beq_eq_false_iff_ne]; intro e; exact hA.2 (UInt8.toNat_inj.1 (by have : (48 : UInt8).toNat = 48 := rfl; omega))
  have HT := Lib.hid (show numT s.data.toList = .err 5 by rw [HNT.out, if_neg hAA, if_pos hm])
  have hm' : (2147483647 : Int) < (cap31 V : Nat) := by unfold cap31; omega
  clear hA hAA
  go_enter Tryz.func81, Tryz.ntmps81
  go_wp2_with (first | (go_at_call 120; refine (HC0.out _).mono ?_; rintro e w1 ⟨rfl, rfl⟩) | (go_at_call 121; refine (HC1.out _).mono ?_; rintro e w1 ⟨rfl, rfl⟩))
  go_loop [4] (fun n => HwRel dig s.data.toList n) (fun n => tokMb s.size n)
  case atStart => exact ⟨0, by omega, rfl, by rw [List.drop_zero, Nat.zero_add]⟩
  case round =>
    obtain ⟨j, hj, rfl, hn⟩ := hrel
    have HN := Lib.hid hn
    rw [list_size] at hj
    clear hn
    by_cases hjl : j < s.size
    · have hlj := get_list s j hjl
      obtain ⟨b, hb⟩ : ∃ b : UInt8, b = s[j]'hjl := ⟨_, rfl⟩
      rw [← hb] at hlj
      have hgj : ∀ h : j < s.size, s[j]'h = b := fun h => hb.symm
      have HLJ := Lib.hid hlj
      clear hlj hb
      have HDB := Lib.hid (HDD.out b)
      cases hdi : dig b with
      | true =>
        rw [hdi] at HDB
        have HF := Lib.hid (show j + 1 + twn dig (s.data.toList.drop (j + 1)) = twn dig s.data.toList by rw [← HN.out, HLJ.out, twn_go hdi]; omega)
        clear hdi
        go_wp2_with (first | (go_at_call 121; refine (HDB.out _).mono ?_; rintro e w1 ⟨rfl, rfl⟩))
        exact ⟨⟨j + 1, by rw [list_size]; omega, rfl, HF.out⟩, by simp only [tokMb]; omega⟩
      | false =>
        rw [hdi] at HDB
        obtain rfl : j = N := by rw [HNN.out, ← HN.out]; rw [HLJ.out, twn_stop hdi]; rfl
        clear hdi
        go_wp2_with (first | (go_at_call 121; refine (HDB.out _).mono ?_; rintro e w1 ⟨rfl, rfl⟩) | (go_at_call 122; refine (HRN.out _).mono ?_; rintro e w1 ⟨rfl, rfl⟩))
        refine bodyPost_ret (v := .tuple #[.agg #[.int .i64 0, .int .i64 0, .string ⟨#[]⟩, .int .i64 0], .int .i64 5]) (by simp [results, Tryz.results81, go_sem, *]) rfl ?_
        exact tpost_err HT.out rfl ((Ext.refl w).alloc _)
    · obtain rfl : j = N := by
        rw [HNN.out, ← HN.out, show j = s.size by omega, drop_end s s.size (by omega)]; rfl
      have hje : ¬ ((j : Int) < (s.size : Int)) := by omega
      go_wp2_with (first | (go_at_call 122; refine (HRN.out _).mono ?_; rintro e w1 ⟨rfl, rfl⟩))
      refine bodyPost_ret (v := .tuple #[.agg #[.int .i64 0, .int .i64 0, .string ⟨#[]⟩, .int .i64 0], .int .i64 5]) (by simp [results, Tryz.results81, go_sem, *]) rfl ?_
      exact tpost_err HT.out rfl ((Ext.refl w).alloc _)
set_option maxHeartbeats 4000000 in
set_option maxRecDepth 100000 in
theorem rtok_numC2 (s : ByteArray) (w : World) (hs : s.size ≤ 281474976710656) (h0 : 0 < s.size) (hlo : low (s[0]'h0) = false) (hdi : dig (s[0]'h0) = true) (hA : 1 < twn dig s.data.toList ∧ s[0]'h0 ≠ 48) (hm : ¬ 2147483647 < dval 0 (s.data.toList.takeWhile dig)) : Calls Tryz.prog 81 #[.string s] w (TPost (numT s.data.toList) s w) := by
  have hl := get_list s 0 h0
  rw [List.drop_zero] at hl
  obtain ⟨c, hc⟩ : ∃ c : UInt8, c = s[0]'h0 := ⟨_, rfl⟩
  rw [← hc] at hlo hdi hl hA
  have hgt : ∀ h : 0 < s.size, s[0]'h = c := fun h => hc.symm
  clear hc
  have HC0 := Lib.hid (fun X => rletter_any c X)
  rw [hlo] at HC0
  have HC1 := Lib.hid (fun X => rdigit_any c X)
  rw [hdi] at HC1
  have HDD := Lib.hid (fun b X => rdigit_any b X)
  have hz := twn_size dig s
  have hz1 : 1 ≤ twn dig s.data.toList := by rw [hl, twn_go hdi]; omega
  have HL := Lib.hid hl
  clear hlo hdi hl
  have hex : (s.extract 0 (twn dig s.data.toList)).data.toList = s.data.toList.takeWhile dig := by rw [extract_take, take_twn]
  have hrn := fun X => rnum_any (s.extract 0 (twn dig s.data.toList)) X (by rw [ByteArray.size_extract]; omega) (by rw [hex]; exact tw_all dig _)
  rw [hex] at hrn
  have hnt : numT s.data.toList = if 1 < twn dig s.data.toList ∧ c = 48 then .err 20 else if 2147483647 < dval 0 (s.data.toList.takeWhile dig) then .err 5 else .ok 2 (twn dig s.data.toList) (dval 0 (s.data.toList.takeWhile dig)) := by
    rw [numT, HL.out, List.head?_cons, ← HL.out]; simp only [Option.some.injEq]
  clear hex
  obtain ⟨V, hV⟩ : ∃ V, V = dval 0 (s.data.toList.takeWhile dig) := ⟨_, rfl⟩
  obtain ⟨N, hN⟩ : ∃ N, N = twn dig s.data.toList := ⟨_, rfl⟩
  rw [← hV] at hrn hnt
  rw [← hN] at hrn hnt hz hz1
  try rw [← hN] at hA
  try rw [← hV] at hm
  have HNN := Lib.hid hN
  have HRN := Lib.hid hrn
  have HNT := Lib.hid hnt
  clear hN hrn hV hnt
  have g1 : (1 : Int) < (N : Int) := by omega
  have hAA : ¬ (1 < N ∧ c = 48) := fun h => hA.2 h.2
  have g48 : ((c.toNat : Int) == 48) = false := by rw [beq_eq_false_iff_ne]; intro e; exact hA.2 (UInt8.toNat_inj.1 (by have : (48 : UInt8).toNat = 48 := rfl; omega))
  have HT := Lib.hid (show numT s.data.toList = .ok 2 N V by rw [HNT.out, if_neg hAA, if_neg hm])
  have hcv : cap31 V = V := by unfold cap31; omega
  rw [hcv] at HRN
  have hm' : ¬ (2147483647 : Int) < (V : Int) := by omega
  clear hcv hA hAA
  go_enter Tryz.func81, Tryz.ntmps81
  go_wp2_with (first | (go_at_call 120; refine (HC0.out _).mono ?_; rintro e w1 ⟨rfl, rfl⟩) | (go_at_call 121; refine (HC1.out _).mono ?_; rintro e w1 ⟨rfl, rfl⟩))
  go_loop [4] (fun n => HwRel dig s.data.toList n) (fun n => tokMb s.size n)
  case atStart => exact ⟨0, by omega, rfl, by rw [List.drop_zero, Nat.zero_add]⟩
  case round =>
    obtain ⟨j, hj, rfl, hn⟩ := hrel
    have HN := Lib.hid hn
    rw [list_size] at hj
    clear hn
    by_cases hjl : j < s.size
    · have hlj := get_list s j hjl
      obtain ⟨b, hb⟩ : ∃ b : UInt8, b = s[j]'hjl := ⟨_, rfl⟩
      rw [← hb] at hlj
      have hgj : ∀ h : j < s.size, s[j]'h = b := fun h => hb.symm
      have HLJ := Lib.hid hlj
      clear hlj hb
      have HDB := Lib.hid (HDD.out b)
      cases hdi : dig b with
      | true =>
        rw [hdi] at HDB
        have HF := Lib.hid (show j + 1 + twn dig (s.data.toList.drop (j + 1)) = twn dig s.data.toList by rw [← HN.out, HLJ.out, twn_go hdi]; omega)
        clear hdi
        go_wp2_with (first | (go_at_call 121; refine (HDB.out _).mono ?_; rintro e w1 ⟨rfl, rfl⟩))
        exact ⟨⟨j + 1, by rw [list_size]; omega, rfl, HF.out⟩, by simp only [tokMb]; omega⟩
      | false =>
        rw [hdi] at HDB
        obtain rfl : j = N := by rw [HNN.out, ← HN.out]; rw [HLJ.out, twn_stop hdi]; rfl
        clear hdi
        go_upto_region 15 with (first | (go_at_call 121; refine (HDB.out _).mono ?_; rintro e w1 ⟨rfl, rfl⟩) | (go_at_call 122; refine (HRN.out _).mono ?_; rintro e w1 ⟨rfl, rfl⟩))
        have hbx := TBox.new w 0 0 0 ⟨#[]⟩ 46
        have hx0 : Ext w (w.alloc (.cells #[.int .i64 0, .int .i64 0, .string ⟨#[]⟩, .int .i64 0] 46)) := (Ext.refl w).alloc _
        obtain ⟨q0, q1, q2, q3, q4, q5, q6, q7, q8⟩ := hbx
        generalize w.alloc (.cells #[.int .i64 0, .int .i64 0, .string ⟨#[]⟩, .int .i64 0] 46) = w2 at *
        go_region_held3 (fun W => W.frozen? ⟨w.heap.size, 0, none⟩ = false) (go_keep) (first | (go_at_call 122; refine (HRN.out _).mono ?_; rintro e w1 ⟨rfl, rfl⟩))
        go_wp2
        refine bodyPost_ret (v := .tuple #[.agg #[.int .i64 2, .int .i64 0, .string (s.extract 0 j), .int .i64 V], .int .i64 0]) (by simp [results, Tryz.results81, go_sem, *]) rfl ?_
        exact tpost_ok HT.out rfl rfl (extract_take _ _) ((hx0.store4 (Nat.le_refl _) _ _ _ _).drew)
    · obtain rfl : j = N := by
        rw [HNN.out, ← HN.out, show j = s.size by omega, drop_end s s.size (by omega)]; rfl
      have hje : ¬ ((j : Int) < (s.size : Int)) := by omega
      go_upto_region 15 with (first | (go_at_call 122; refine (HRN.out _).mono ?_; rintro e w1 ⟨rfl, rfl⟩))
      have hbx := TBox.new w 0 0 0 ⟨#[]⟩ 46
      have hx0 : Ext w (w.alloc (.cells #[.int .i64 0, .int .i64 0, .string ⟨#[]⟩, .int .i64 0] 46)) := (Ext.refl w).alloc _
      obtain ⟨q0, q1, q2, q3, q4, q5, q6, q7, q8⟩ := hbx
      generalize w.alloc (.cells #[.int .i64 0, .int .i64 0, .string ⟨#[]⟩, .int .i64 0] 46) = w2 at *
      go_region_held3 (fun W => W.frozen? ⟨w.heap.size, 0, none⟩ = false) (go_keep) (first | (go_at_call 122; refine (HRN.out _).mono ?_; rintro e w1 ⟨rfl, rfl⟩))
      go_wp2
      refine bodyPost_ret (v := .tuple #[.agg #[.int .i64 2, .int .i64 0, .string (s.extract 0 j), .int .i64 V], .int .i64 0]) (by simp [results, Tryz.results81, go_sem, *]) rfl ?_
      exact tpost_ok HT.out rfl rfl (extract_take _ _) ((hx0.store4 (Nat.le_refl _) _ _ _ _).drew)
set_option maxHeartbeats 4000000 in
set_option maxRecDepth 100000 in
theorem rtok_day (s : ByteArray) (w : World) (hs : s.size ≤ 281474976710656) (h0 : 0 < s.size) (hlo : low (s[0]'h0) = false) (hdi : dig (s[0]'h0) = false) (h64 : s[0]'h0 = 64) : Calls Tryz.prog 81 #[.string s] w (TPost (dayT s.data.toList) s w) := by
  have hl := get_list s 0 h0
  rw [List.drop_zero] at hl
  obtain ⟨c, hc⟩ : ∃ c : UInt8, c = s[0]'h0 := ⟨_, rfl⟩
  rw [← hc] at hlo hdi hl h64
  have hgt : ∀ h : 0 < s.size, s[0]'h = c := fun h => hc.symm
  clear hc
  have HC0 := Lib.hid (fun X => rletter_any c X)
  rw [hlo] at HC0
  have HC1 := Lib.hid (fun X => rdigit_any c X)
  rw [hdi] at HC1
  have HL := Lib.hid hl
  clear hlo hdi hl
  have hh : s.data.toList.head? = some 64 := by rw [HL.out, h64]; rfl
  have g64 : ((c.toNat : Int) == 64) = true := by rw [h64]; rfl
  have HDT := Lib.hid (fun X => rdated_any s X hh hs)
  clear h64 hh
  cases hd : dated s.data.toList with
  | false =>
    have HT := Lib.hid (show dayT s.data.toList = .err 20 by rw [dayT, hd]; rfl)
    rw [hd] at HDT
    clear hd
    go_enter Tryz.func81, Tryz.ntmps81
    go_wp2_with (first | (go_at_call 120; refine (HC0.out _).mono ?_; rintro e w1 ⟨rfl, rfl⟩) | (go_at_call 121; refine (HC1.out _).mono ?_; rintro e w1 ⟨rfl, rfl⟩) | (go_at_call 123; refine (HDT.out _).mono ?_; rintro e w1 ⟨rfl, rfl⟩))
    refine bodyPost_ret (v := .tuple #[.agg #[.int .i64 0, .int .i64 0, .string ⟨#[]⟩, .int .i64 0], .int .i64 20]) (by simp [results, Tryz.results81, go_sem, *]) rfl ?_
    exact tpost_err HT.out rfl ((Ext.refl w).alloc _)
  | true =>
    have hdd := dayP_of s
    have hsz : 11 ≤ s.size := by
      have h := hd
      simp only [dated, Bool.and_eq_true, decide_eq_true_eq] at h
      rw [← list_size]; exact h.1
    have HP := Lib.hid (fun X => rparse_any (s.extract 1 11) X (ten_of hd))
    have hT0 : dayT s.data.toList = (match dayP ((s.data.toList.drop 1).take 10) with | some d => .ok 3 11 d | none => .err 5) := by rw [dayT, if_pos hd]; rfl
    rw [hdd] at hT0
    rw [hd] at HDT
    clear hd hdd
    unfold DayPost chkE at HP
    generalize yOf (s.extract 1 11) = y at *
    generalize mOf (s.extract 1 11) = m at *
    generalize dOf (s.extract 1 11) = d at *
    cases hb : dateB y m d with
    | true =>
      rw [hb] at HP hT0
      have HT := Lib.hid (show dayT s.data.toList = .ok 3 11 (dayNo y m d : Nat) from hT0)
      have HPP := Lib.hid (show ∀ X, Calls Tryz.prog 124 #[.string (s.extract 1 11)] X (fun e X' => e = .returned (.tuple #[.int .i64 (dayNo y m d : Nat), .int .i64 0]) ∧ Ext X X') from HP.out)
      clear hT0 HP hb
      generalize dayNo y m d = N at *
      have hbx := TBox.new w 0 0 0 ⟨#[]⟩ 46
      have hx0 : Ext w (w.alloc (.cells #[.int .i64 0, .int .i64 0, .string ⟨#[]⟩, .int .i64 0] 46)) := (Ext.refl w).alloc _
      go_enter Tryz.func81, Tryz.ntmps81
      go_wp2_with (first | (go_at_call 120; refine (HC0.out _).mono ?_; rintro e w1 ⟨rfl, rfl⟩) | (go_at_call 121; refine (HC1.out _).mono ?_; rintro e w1 ⟨rfl, rfl⟩) | (go_at_call 123; refine (HDT.out _).mono ?_; rintro e w1 ⟨rfl, rfl⟩) | (go_at_call 124; refine (HPP.out _).mono ?_; rintro e w2 ⟨rfl, hx⟩; have hx1 := hx0.trans hx; obtain ⟨q0, q1, q2, q3, q4, q5, q6, q7, q8⟩ := hbx.ext hx))
      refine bodyPost_ret (v := .tuple #[.agg #[.int .i64 3, .int .i64 0, .string (s.extract 0 11), .int .i64 N], .int .i64 0]) (by simp [results, Tryz.results81, go_sem, *]) rfl ?_
      exact tpost_ok HT.out rfl rfl (extract_take _ _) (hx1.store4 (Nat.le_refl _) _ _ _ _)
    | false =>
      rw [hb] at HP hT0
      have HT := Lib.hid (show dayT s.data.toList = .err 5 from hT0)
      have HPP := Lib.hid (show ∀ X, Calls Tryz.prog 124 #[.string (s.extract 1 11)] X (fun e X' => e = .returned (.tuple #[.int .i64 (0 : Nat), .int .i64 5]) ∧ Ext X X') from HP.out)
      clear hT0 HP hb
      have hbx := TBox.new w 0 0 0 ⟨#[]⟩ 46
      have hx0 : Ext w (w.alloc (.cells #[.int .i64 0, .int .i64 0, .string ⟨#[]⟩, .int .i64 0] 46)) := (Ext.refl w).alloc _
      go_enter Tryz.func81, Tryz.ntmps81
      go_wp2_with (first | (go_at_call 120; refine (HC0.out _).mono ?_; rintro e w1 ⟨rfl, rfl⟩) | (go_at_call 121; refine (HC1.out _).mono ?_; rintro e w1 ⟨rfl, rfl⟩) | (go_at_call 123; refine (HDT.out _).mono ?_; rintro e w1 ⟨rfl, rfl⟩) | (go_at_call 124; refine (HPP.out _).mono ?_; rintro e w2 ⟨rfl, hx⟩; have hx1 := hx0.trans hx; obtain ⟨q0, q1, q2, q3, q4, q5, q6, q7, q8⟩ := hbx.ext hx))
      refine bodyPost_ret (v := .tuple #[.agg #[.int .i64 0, .int .i64 0, .string ⟨#[]⟩, .int .i64 0], .int .i64 5]) (by simp [results, Tryz.results81, go_sem, *]) rfl ?_
      exact tpost_err HT.out rfl (hx1.store4 (Nat.le_refl _) _ _ _ _)
set_option maxHeartbeats 4000000 in
set_option maxRecDepth 100000 in
theorem rtok_sym (s : ByteArray) (w : World) (hs : s.size ≤ 281474976710656) (h0 : 0 < s.size) (hlo : low (s[0]'h0) = false) (hdi : dig (s[0]'h0) = false) (h64 : s[0]'h0 ≠ 64) : Calls Tryz.prog 81 #[.string s] w (TPost (symT s.data.toList) s w) := by
  have hl := get_list s 0 h0
  rw [List.drop_zero] at hl
  obtain ⟨c, hc⟩ : ∃ c : UInt8, c = s[0]'h0 := ⟨_, rfl⟩
  rw [← hc] at hlo hdi hl h64
  have hgt : ∀ h : 0 < s.size, s[0]'h = c := fun h => hc.symm
  clear hc
  have HC0 := Lib.hid (fun X => rletter_any c X)
  rw [hlo] at HC0
  have HC1 := Lib.hid (fun X => rdigit_any c X)
  rw [hdi] at HC1
  have HL := Lib.hid hl
  clear hlo hdi hl
  have g64 : ((c.toNat : Int) == 64) = false := by
    rw [beq_eq_false_iff_ne]; intro e; exact h64 (UInt8.toNat_inj.1 (by have : (64 : UInt8).toNat = 64 := rfl; omega))
  have HSY := Lib.hid (fun X => rsym_any s X hs h0)
  have hle : symN s.data.toList ≤ s.size := by
    rw [← list_size]
    rw [HL.out, symN_cons]
    split
    · rename_i h
      cases r0 : s.data.toList.drop (0 + 1) with
      | nil => rw [r0] at h; simp at h
      | cons => simp
    · split <;> simp
  obtain ⟨N, hN⟩ : ∃ N, N = symN s.data.toList := ⟨_, rfl⟩
  have hT0 : symT s.data.toList = if N = 0 then .err 20 else .ok 4 N 0 := by rw [symT, ← hN]
  rw [← hN] at HSY hle
  clear hN h64
  have hbx := TBox.new w 0 0 0 ⟨#[]⟩ 46
  have hx0 : Ext w (w.alloc (.cells #[.int .i64 0, .int .i64 0, .string ⟨#[]⟩, .int .i64 0] 46)) := (Ext.refl w).alloc _
  by_cases hn : N = 0
  · have HT := Lib.hid (show symT s.data.toList = .err 20 by rw [hT0, if_pos hn])
    have gn : ((N : Int) == 0) = true := by rw [beq_iff_eq]; omega
    clear hT0 hn
    go_enter Tryz.func81, Tryz.ntmps81
    go_wp2_with (first | (go_at_call 120; refine (HC0.out _).mono ?_; rintro e w1 ⟨rfl, rfl⟩) | (go_at_call 121; refine (HC1.out _).mono ?_; rintro e w1 ⟨rfl, rfl⟩) | (go_at_call 125; refine (HSY.out _).mono ?_; rintro e w2 ⟨rfl, hx⟩; have hx1 := hx0.trans hx; obtain ⟨q0, q1, q2, q3, q4, q5, q6, q7, q8⟩ := hbx.ext hx))
    refine bodyPost_ret (v := .tuple #[.agg #[.int .i64 0, .int .i64 0, .string ⟨#[]⟩, .int .i64 0], .int .i64 20]) (by simp [results, Tryz.results81, go_sem, *]) rfl ?_
    exact tpost_err HT.out rfl (hx1.store4 (Nat.le_refl _) _ _ _ _)
  · have HT := Lib.hid (show symT s.data.toList = .ok 4 N 0 by rw [hT0, if_neg hn])
    have gn : ((N : Int) == 0) = false := by rw [beq_eq_false_iff_ne]; omega
    clear hT0 hn
    go_enter Tryz.func81, Tryz.ntmps81
    go_wp2_with (first | (go_at_call 120; refine (HC0.out _).mono ?_; rintro e w1 ⟨rfl, rfl⟩) | (go_at_call 121; refine (HC1.out _).mono ?_; rintro e w1 ⟨rfl, rfl⟩) | (go_at_call 125; refine (HSY.out _).mono ?_; rintro e w2 ⟨rfl, hx⟩; have hx1 := hx0.trans hx; obtain ⟨q0, q1, q2, q3, q4, q5, q6, q7, q8⟩ := hbx.ext hx))
    refine bodyPost_ret (v := .tuple #[.agg #[.int .i64 4, .int .i64 0, .string (s.extract 0 N), .int .i64 0], .int .i64 0]) (by simp [results, Tryz.results81, go_sem, *]) rfl ?_
    exact tpost_ok HT.out rfl rfl (extract_take _ _) (hx1.store4 (Nat.le_refl _) _ _ _ _)
theorem rtok_any (s : ByteArray) (w : World) (hs : s.size ≤ 281474976710656) (h0 : 0 < s.size) : Calls Tryz.prog 81 #[.string s] w (TPost (tok1 s.data.toList) s w) := by
  have hl := get_list s 0 h0
  rw [List.drop_zero] at hl
  cases hlo : low (s[0]'h0) with
  | true => rw [hl, tok1_word hlo, ← hl]; exact rtok_word s w hs h0 hlo
  | false =>
    cases hdi : dig (s[0]'h0) with
    | true =>
      rw [hl, tok1_num hlo hdi, ← hl]
      by_cases h1 : 1 < twn dig s.data.toList
      · by_cases h48 : s[0]'h0 = 48
        · exact rtok_numA s w hs h0 hlo hdi ⟨h1, h48⟩
        · by_cases hm : 2147483647 < dval 0 (s.data.toList.takeWhile dig)
          · exact rtok_numC1 s w hs h0 hlo hdi ⟨h1, h48⟩ hm
          · exact rtok_numC2 s w hs h0 hlo hdi ⟨h1, h48⟩ hm
      · by_cases hm : 2147483647 < dval 0 (s.data.toList.takeWhile dig)
        · exact rtok_numB1 s w hs h0 hlo hdi ⟨h1, rfl⟩ hm
        · exact rtok_numB2 s w hs h0 hlo hdi ⟨h1, rfl⟩ hm
    | false =>
      by_cases h64 : s[0]'h0 = 64
      · rw [hl, tok1_day hlo hdi h64, ← hl]; exact rtok_day s w hs h0 hlo hdi h64
      · rw [hl, tok1_sym hlo hdi h64, ← hl]; exact rtok_sym s w hs h0 hlo hdi h64
end Go.Proofs.YtnpenepdechkjaaGreatDoor

/- The contract of the reference's Tokens. -/
namespace Go.Proofs.YtnpenepdechkjaaGreatDoor
open Go Go.RowKit

theorem skip_idem : ∀ (cm : Bool) (s : List UInt8), skipB false (skipB cm s) = skipB cm s
  | _, [] => rfl
  | cm, c :: r => by
    rw [skipB]
    split
    · exact skip_idem false r
    · rename_i h10
      split
      · exact skip_idem true r
      · rename_i h35
        split
        · exact skip_idem cm r
        · rename_i hb
          rw [skipB, if_neg h10, if_neg h35, if_neg]
          intro h; apply hb
          rw [Bool.or_eq_true] at h ⊢
          rcases h with h | h
          · cases h
          · exact .inr h
theorem skip_fix {b : UInt8} {r : List UInt8} (h : skipB false (b :: r) = b :: r) : blk b = false ∧ b ≠ 35 := by
  have hlen : ∀ cm, skipB cm r ≠ b :: r := fun cm e => by
    have := skipB_len cm r
    rw [e, List.length_cons] at this; omega
  rw [skipB] at h
  split at h
  · exact absurd h (hlen _)
  · split at h
    · exact absurd h (hlen _)
    · rename_i h35
      split at h
      · exact absurd h (hlen _)
      · rename_i hb
        refine ⟨?_, h35⟩
        cases hk : blk b with
        | false => rfl
        | true => exact absurd (by rw [hk]; rfl) hb
theorem sk_drop (l : List UInt8) (a : Nat) (ha : a ≤ l.length) : l.drop (skN l a) = skipB false (l.drop a) ∧ a ≤ skN l a ∧ skN l a ≤ l.length := by
  have h1 := skipB_len false (l.drop a)
  have h2 := skipB_drop false (l.drop a)
  rw [List.length_drop] at h1 h2
  refine ⟨?_, by unfold skN; omega, by unfold skN; omega⟩
  rw [List.drop_drop] at h2
  rw [← h2]
  congr 1
  unfold skN; omega
theorem sk_lex (l : List UInt8) (a : Nat) (ha : a ≤ l.length) : lexW a (l.drop a) = lexW (skN l a) (l.drop (skN l a)) := by
  obtain ⟨h1, h2, h3⟩ := sk_drop l a ha
  apply lex_skip
  · rw [h1, skip_idem]
  · rw [List.length_drop, List.length_drop]; omega
def KRel (W : World) (l : List UInt8) (s5 s6 : Value) (w' : World) : Prop :=
  ∃ (a : Nat) (A : Option Addr) (c : Nat) (pre : List Tk), a ≤ l.length ∧ s6 = .int .i64 a ∧ s5 = .slice A pre.length c ∧ OL tcf 4 w' W.heap.size 46 s5 pre ∧ Ext W w' ∧ pre.length ≤ a ∧ lexW 0 l = LexR.putAll pre (lexW a (l.drop a)) ∧ skipB false (l.drop a) = l.drop a
set_option maxHeartbeats 4000000 in
set_option maxRecDepth 100000 in
theorem rtokens_any (s : ByteArray) (w : World) (hs : s.size ≤ 281474976710656) : Calls Tryz.prog 36 #[.string s] w (TokPost w (lexT s.data.toList)) := by
  by_cases hbig : 4000 < s.size
  · have hT : lexT s.data.toList = ⟨[], 4000, 2⟩ := by rw [lexT, if_pos (by rw [list_size]; exact hbig)]
    have HT := Lib.hid hT
    have hb' : (4000 : Int) < (s.size : Int) := by omega
    clear hT
    go_enter Tryz.func36, Tryz.ntmps36
    go_wp2
    refine bodyPost_ret (v := .tuple #[.slice none 0 0, .int .i64 4000, .int .i64 2]) (by simp [results, Tryz.results36, go_sem, *]) rfl ?_
    rw [HT.out]
    exact ⟨none, 0, rfl, SL.nil _, Ext.refl _, Nat.zero_le _⟩
  · have hT : lexT s.data.toList = lexW 0 s.data.toList := by rw [lexT, if_neg (by rw [list_size]; exact hbig)]
    have HT := Lib.hid hT
    have hb' : ¬ (4000 : Int) < (s.size : Int) := by omega
    have HS0 := Lib.hid (fun X => (rskip_any s 0 X (by omega) hs).mono (R' := fun e w' => e = .returned (.int .i64 (skN s.data.toList 0 : Nat)) ∧ X = w') (fun _ _ h => ⟨h.1, h.2.symm⟩))
    obtain ⟨d1, d2, d3⟩ := sk_drop s.data.toList 0 (by omega)
    have d4 := sk_lex s.data.toList 0 (by omega)
    rw [List.drop_zero] at d1 d4
    obtain ⟨p0, hp0⟩ : ∃ p, p = skN s.data.toList 0 := ⟨_, rfl⟩
    rw [← hp0] at HS0 d1 d2 d3 d4
    have HZ := Lib.hid (show lexW 0 s.data.toList = LexR.putAll [] (lexW p0 (s.data.toList.drop p0)) ∧ skipB false (s.data.toList.drop p0) = s.data.toList.drop p0 from ⟨by rw [putAll_nil]; exact d4, by rw [d1, skip_idem]⟩)
    clear hT d1 d2 d4 hp0
    rw [list_size] at d3
    go_enter Tryz.func36, Tryz.ntmps36
    go_wp2_with (first | (go_at_call 80; refine (HS0.out _).mono ?_; rintro e w1 ⟨rfl, rfl⟩))
    go_loopw [5, 6] (fun s5 s6 w' => KRel w s.data.toList s5 s6 w') (fun _ s6 _ => tokM s.size s6)
    case atStart => exact ⟨p0, none, 0, [], by rw [list_size]; exact d3, rfl, rfl, OL.nil _ _ _, Ext.refl _, by simp, HZ.out.1, HZ.out.2⟩
    case round =>
      obtain ⟨a, A, c, pre, ha, rfl, rfl, ho, hx, hpl, hlx, hsk⟩ := hrel
      have HO := Lib.hid ho
      have HX := Lib.hid hx
      have HLX := Lib.hid hlx
      have HSK := Lib.hid hsk
      rw [list_size] at ha
      clear ho hx hlx hsk
      by_cases hal : a < s.size
      · have hsz0 : 0 < (s.extract a s.size).size := by rw [ByteArray.size_extract]; omega
        have hl := get_list s a hal
        obtain ⟨b, hb⟩ : ∃ b : UInt8, b = s[a]'hal := ⟨_, rfl⟩
        rw [← hb] at hl
        have HLL := Lib.hid hl
        have hfx := skip_fix (b := b) (r := s.data.toList.drop (a + 1)) (by rw [← hl]; exact HSK.out)
        have el : (s.extract a s.size).data.toList = s.data.toList.drop a := by rw [extract_list]; apply List.take_of_length_le; rw [List.length_drop, list_size]; omega
        have HRD := Lib.hid (fun X => rtok_any (s.extract a s.size) X (by rw [ByteArray.size_extract]; omega) hsz0)
        rw [show tok1 (s.extract a s.size).data.toList = tok1 (b :: s.data.toList.drop (a + 1)) by rw [el, HLL.out]] at HRD
        clear hl hb hsz0
        cases ht : tok1 (b :: s.data.toList.drop (a + 1)) with
        | err e =>
          rw [ht] at HRD
          have HFIN := Lib.hid (tokens_err HLX.out HLL.out hfx.1 hfx.2 ht)
          have hne : (e == 0) = false := by simpa using tok1_err_ne ht
          clear HLX HLL hfx el ht HSK
          go_wp2_with (first | (go_at_call 81; refine (HRD.out _).mono ?_; rintro e' w2 ⟨rfl, hx2⟩))
          refine bodyPost_ret (v := .tuple #[.slice none 0 0, .int .i64 a, .int .i64 e]) (by simp [results, Tryz.results36, go_sem]) rfl ?_
          exact tok_post_err HT.out HFIN.out ((HX.out.trans hx2).alloc _)
        | ok k n v =>
          have hnr := (tok1_len ht)
          rw [List.length_cons, List.length_drop, list_size] at hnr
          have hn0 : 0 < n := hnr.1
          have hnz : a + n ≤ s.size := by omega
          have HRO := Lib.hid (fun X e W' (hp : TPost (tok1 (b :: s.data.toList.drop (a + 1))) (s.extract a s.size) X e W') => tpost_okk ht (el.trans HLL.out) hp)
          have hfin := tokens_ok HLX.out HLL.out hfx.1 hfx.2 ht
          have hsd := sk_drop s.data.toList (a + n) (by rw [list_size]; exact hnz)
          rw [sk_lex s.data.toList (a + n) (by rw [list_size]; exact hnz)] at hfin
          have HK := Lib.hid (fun X => (show Calls Tryz.prog 80 #[.string s, .int .i64 ((a : Int) + (n : Int))] X (fun e w' => e = .returned (.int .i64 (skN s.data.toList (a + n) : Nat)) ∧ w' = X) from rskip_any s (a + n) X hnz hs))
          obtain ⟨p, hp⟩ : ∃ p, p = skN s.data.toList (a + n) := ⟨_, rfl⟩
          rw [← hp] at hsd HK hfin
          obtain ⟨d1, d2, d3⟩ := hsd
          have HID := Lib.hid (show skipB false (s.data.toList.drop p) = s.data.toList.drop p by rw [d1, skip_idem])
          have HFIN := Lib.hid hfin
          rw [list_size] at d3
          clear HLX HLL hfx el ht hnr hfin d1 hp HSK
          go_upto_region 10 with (first | (go_at_call 81; refine (HRD.out _).mono ?_; intro e' w2 hp; obtain ⟨S, hSn, HS, rfl, hx2⟩ := HRO.out _ _ _ hp; clear hp))
          have hown := own_new (HO.out.ext hx2) (Nat.le_refl _)
          obtain ⟨A5, c5, w5, hrun, ho5, hb5, hk5⟩ := ap23_one (w2.alloc (.cells #[.int .i64 k, .int .i64 a, .string S, .int .i64 v] 46)) ((HO.out.ext hx2).ext ((Ext.refl _).alloc _)) k a v S (S.data.toList) rfl (w2.heap.size + 1) (by simp) (by omega) (by simp; exact Nat.le_trans HX.out.lt (Nat.le_trans hx2.lt (Nat.le_succ _)))
          have hk6 := hk5 w2.heap.size (by simp) hown
          have hc2 : w5.cell? ⟨w2.heap.size, 2, none⟩ = some (.string S) := by
            rw [cell_of_row w5 w2.heap.size _ _ 46 (0, 0) (hk6.trans (heap_alloc_new w2 _))]; rfl
          have HO5 := Lib.hid ho5
          have HB5 := Lib.hid hb5
          have HXX := Lib.hid hx2
          clear ho5 hb5 hk5 hk6 hown hx2
          have han : (a : Int) + (n : Int) ≤ 4000 := by omega
          go_wp2_with (first | (at_builtin; refine wpList_append_run (s := .tmp 31) (x := .tmp 33) hrun rfl rfl rfl rfl rfl ?_) | (go_at_call 80; refine (HK.out _).mono ?_; rintro e' w6 ⟨rfl, rfl⟩))
          refine ⟨⟨p, A5, c5, pre ++ [⟨k, a, S.data.toList, v⟩], by rw [list_size]; omega, rfl, by rw [List.length_append]; rfl, HO5.out, ?_, by rw [List.length_append, List.length_singleton]; omega, ?_, HID.out⟩, by simp only [tokM]; omega⟩
          · exact Below.trans ((HX.out.trans HXX.out).alloc _) HB5.out
          · rw [HS.out]; exact HFIN.out
      · obtain rfl : a = s.size := by omega
        have HFIN := Lib.hid (show lexW 0 s.data.toList = ⟨pre ++ [⟨0, (s.size : Nat), [], 0⟩], 0, 0⟩ by
          rw [HLX.out, drop_end s s.size (by omega), lex_end rfl, putAll_ok rfl]; rfl)
        clear HLX hal
        obtain ⟨A5, c5, w5, hrun, ho5, hb5, _⟩ := ap23_one wr HO.out 0 s.size 0 ⟨#[]⟩ [] rfl wr.heap.size rfl (by omega) HX.out.lt
        have HO5 := Lib.hid ho5
        have HB5 := Lib.hid hb5
        clear ho5 hb5
        have hni : ¬ ((s.size : Int) < (s.size : Int)) := by omega
        go_wp2_with (first | (at_builtin; refine wpList_append_run (s := .tmp 42) (x := .tmp 46) hrun rfl rfl rfl rfl rfl ?_))
        refine bodyPost_ret (v := .tuple #[.slice A5 (pre.length + 1) c5, .int .i64 0, .int .i64 0]) (by simp [results, Tryz.results36, go_sem]) rfl ?_
        obtain ⟨A9, c9, e9, hc9, hs9⟩ := OL.form tcf_len HO5.out
        injection e9 with e1 e2 e3
        subst e1 e3
        rw [HT.out, HFIN.out]
        rw [List.length_append] at hs9 hc9
        exact ⟨A5, c5, by rw [List.length_append]; rfl, by rw [List.length_append]; exact hs9, Below.trans HX.out HB5.out, by rw [List.length_append]; exact hc9⟩
end Go.Proofs.YtnpenepdechkjaaGreatDoor

/- The reference's Parse. -/
namespace Go.Proofs.YtnpenepdechkjaaGreatDoor
open Go Go.RowKit

section
variable {W W' X : World} {b : Nat} {A : Option Addr} {N c : Nat} {toks : List Tk} {o : Nat}
def psM (N b : Nat) (X : World) : Nat := match X.cell? ⟨b, 3, none⟩ with
  | some (.int _ z) => if z = 0 then 1 + atM N b X else 0
  | _ => 0
def psV : PR Unit → Nat
  | .ok _ r => 1 + r.length
  | .bad _ _ => 0
theorem psV_lt {q : PR Unit} {n : Nat} (h : ∀ y r', q = .ok y r' → r'.length + 1 ≤ n) : psV q < 1 + n := by
  cases q with
  | bad r e => simp only [psV]; omega
  | ok y r => have := h y r rfl; simp only [psV]; omega
theorem SP.meas2 {q : PR Unit} (h : SP W b A N c toks o q) : psM N b W = psV q := by
  cases q with
  | ok x r =>
    have h9 := h
    obtain ⟨_, a, rfl, hs⟩ := h
    unfold psM
    rw [hs.c3]
    simp only [if_true, psV]
    rw [h9.meas]
  | bad r e =>
    obtain ⟨_, he, a, rfl, hs⟩ := h
    unfold psM
    rw [hs.c3]
    simp only [if_neg he, psV]
/-- What Parse's three words are. -/
def psQ (RES : PR (List Rl)) : List Rl × Int × Int := match RES with
  | .ok v r => if (hd r).kd = 0 then (v, 0, 0) else ([], (hd r).at_, 20)
  | .bad r e => ([], (hd r).at_, e)
def PsRel (V : World) (b : Nat) (A : Option Addr) (N c : Nat) (toks : List Tk) (RES : PR (List Rl)) (s9 : Value) (X : World) : Prop :=
  ∃ (n : Nat) (A9 : Option Addr) (c9 : Nat) (ds : List RlD) (acc : List Rl) (σ : PR Unit), s9 = .slice A9 n c9 ∧ ds.length = n ∧ acc.length = n ∧ (σ.bind fun _ r => RP EX acc r) = RES ∧ SP X b A N c toks 0 σ ∧ KRr X V.heap.size (.slice A9 n c9) ds acc ∧ Mv b V X ∧ (∀ x r, σ = .ok x r → n + r.length ≤ N) ∧ n ≤ N
theorem ruB_next {acc : List Rl} {v : Rl} {r : List Tk} {RES : PR (List Rl)} (h : ((PR.ok () r : PR Unit).bind fun _ r => RP EX acc r) = RES) (hk : (hd r).kd ≠ 0) (hv : ∀ x v' r', ruB (PR.ok () r : PR Unit) = .ok (x, v') r' → v = v') :
    (((ruB (PR.ok () r : PR Unit)).bind fun y r => PR.ok y.1 r).bind fun _ r => RP EX (acc ++ [v]) r) = RES := by
  rw [← h, PR.bind_ok, RP_eq loc_EX, if_neg hk]
  simp only [ruB, PR.bind_ok, PR.bind_assoc] at hv ⊢
  cases hr : ruleP EX r with
  | bad r1 e => rfl
  | ok v' r1 =>
    rw [hr] at hv
    have := hv () v' r1 rfl
    rw [this]; rfl
set_option maxHeartbeats 4000000 in
set_option maxRecDepth 100000 in
theorem rParse_any (s : ByteArray) (w : World) (hs : s.size ≤ 281474976710656) : Calls Tryz.prog 15 #[.string s] w (PaPost (RWl w.heap.size) w (parseR s.data.toList)) := by
  have HC := Lib.hid (rtokens_any s w hs)
  have HRES := Lib.hid (show parseR s.data.toList = parseG (RP EX []) [] (lexT s.data.toList) from rfl)
  obtain ⟨LX, hLX⟩ : ∃ x, x = lexT s.data.toList := ⟨_, rfl⟩
  rw [← hLX] at HC HRES
  have HLX := Lib.hid hLX
  obtain ⟨Y, hY⟩ : ∃ Y, Y = parseR s.data.toList := ⟨_, rfl⟩
  rw [← hY] at HRES ⊢
  clear hLX hY hs
  by_cases hz : LX.e = 0
  case neg =>
    have hb : (LX.e != 0) = true := by rw [bne_iff_ne]; exact hz
    have HF := Lib.hid (show Y = ([], LX.off, LX.e) by rw [HRES.out, parseG, if_neg hz])
    clear hz
    go_enter Tryz.func15, Tryz.ntmps15
    go_wp2_with (first | (go_at_call 36; refine (HC.out).mono ?_; rintro e w1 ⟨A, c, rfl, hsl, hx, hc⟩; have HX := Lib.hid hx; clear hsl hx hc))
    refine bodyPost_ret (v := .tuple #[.slice none 0 0, .int .i64 LX.off, .int .i64 LX.e]) (by simp [results, Tryz.results15, go_sem, *]) rfl ?_
    rw [HF.out]
    exact ⟨_, rfl, ⟨none, 0, rfl, RW.nil _ _⟩, HX.out⟩
  have hb : (LX.e != 0) = false := by rw [bne_eq_false_iff_eq]; exact hz
  have hlex := lexT_ok (by rw [← HLX.out]; exact hz)
  rw [← HLX.out] at hlex
  obtain ⟨hwf, hlen, hpos, htx, hq1, hq2⟩ := hlex
  clear hq1 hq2
  obtain ⟨toks, htk⟩ : ∃ l, l = LX.l := ⟨_, rfl⟩
  obtain ⟨RES, hres⟩ : ∃ R, R = RP EX [] toks := ⟨_, rfl⟩
  have HF := Lib.hid (show Y = psQ RES by rw [HRES.out, parseG, if_pos hz, hres, htk]; cases RP EX [] LX.l <;> rfl)
  have HRS := Lib.hid hres
  obtain ⟨N, hN⟩ : ∃ n, n = LX.l.length := ⟨_, rfl⟩
  rw [← htk] at hwf htx hlen hpos
  have HTK := Lib.hid htk
  have HN := Lib.hid hN
  have HWF := Lib.hid hwf
  have HTX := Lib.hid htx
  have hNl : N ≤ 4001 := by rw [hN, ← htk]; exact hlen
  have hNp : 0 < N := by rw [hN, ← htk]; exact hpos
  clear hz hwf htx hlen hpos htk hN hres HRES HLX
  go_enter Tryz.func15, Tryz.ntmps15
  go_upto_region 4 with (first | (go_at_call 36; refine (HC.out).mono ?_; rintro e w1 ⟨A, c, rfl, hsl, hx, hc⟩; have HX1 := Lib.hid hx; have HSL := Lib.hid hsl; clear hsl hx hc))
  rw [← HN.out]
  have hsl1 : SL tcf 4 w1 A N toks := by have := HSL.out; rw [← HTK.out] at this; rw [HN.out, ← HTK.out]; exact this
  have hx2 : Ext w1 (w1.alloc (.cells #[.slice A N c, .int .i64 0, .int .i64 0, .int .i64 0, .int .i64 0] 62)) := (Ext.refl _).alloc _
  have hsb : SB (w1.alloc (.cells #[.slice A N c, .int .i64 0, .int .i64 0, .int .i64 0, .int .i64 0] 62)) w1.heap.size A N c toks 0 0 0 0 :=
    ⟨heap_alloc_new _ _, hsl1.ext hx2, HWF.out, fun x hx => by
      obtain ⟨b9, off9, e9, hb9, _⟩ := hsl1.2 hNp
      rw [e9] at hx
      injection hx with hx
      rw [← hx]
      simp only
      omega, hNp, by omega, fun t ht => by have := HTX.out t ht; omega⟩
  have hbs : w1.heap.size < (w1.alloc (.cells #[.slice A N c, .int .i64 0, .int .i64 0, .int .i64 0, .int .i64 0] 62)).heap.size := by simp
  go_upto_region 6 with (fail)
  generalize w1.alloc (.cells #[.slice A N c, .int .i64 0, .int .i64 0, .int .i64 0, .int .i64 0] 62) = w2 at *
  have hwb : w.heap.size ≤ w1.heap.size := HX1.out.lt
  have HX2 := Lib.hid (HX1.out.trans hx2)
  clear hx2
  generalize w1.heap.size = b at *
  have hTN : toks.length = N := hsb.len.symm
  have HP2 := Lib.hid (show SP w2 b A N c toks 0 (PR.ok () toks) from ⟨by decide, 0, rfl, hsb⟩)
  have HSTT := Lib.hid (show PsRel w2 b A N c toks RES (.slice none 0 0) w2 from ⟨0, none, 0, [], [], PR.ok () toks, rfl, rfl, rfl, by rw [HRS.out]; rfl, HP2.out, KRr.nil _ _, Mv.refl _ _, fun x r he => by obtain ⟨_, rfl⟩ := PR.ok_inj he; omega, Nat.zero_le _⟩)
  clear hsb HC HSL hsl1
  have hT4 : toks.length ≤ 4001 := by omega
  go_loopw [9] (fun s9 X => PsRel w2 b A N c toks RES s9 X) (fun _ X => psM N b X)
  case atStart => exact HSTT.out
  case round =>
  clear HSTT
  obtain ⟨n, A9, c9, ds, acc, σ, rfl, hdl, hal, hres, hsp, hkr, hmv, hnN, hnn⟩ := hrel
  have HRS9 := Lib.hid hres
  have HSP := Lib.hid hsp
  have HKR := Lib.hid hkr
  have HMV := Lib.hid hmv
  have HNN := Lib.hid hnN
  clear hres hsp hkr hmv hnN
  cases σ with
  | bad r er =>
    obtain ⟨_, her, a, hra, hsb⟩ := HSP.out
    have c3 := hsb.c3
    have c4 := hsb.c4
    have bl := hsb.lt
    have t0 : (er == 0) = false := beq_eq_false_iff_ne.2 her
    have t1 : (er != 0) = true := by rw [bne_iff_ne]; exact her
    have HF2 := Lib.hid (show Y = ([], (hd r).at_, er) by rw [HF.out, ← HRS9.out]; rfl)
    clear hsb her
    go_upto_region 6 with (fail)
    go_quiet (fail)
    go_upto_region 9 with (fail)
    go_quiet (fail)
    go_wp2
    refine bodyPost_ret (v := .tuple #[.slice none 0 0, .int .i64 (hd r).at_, .int .i64 er]) (by simp [results, Tryz.results15, go_sem, *]) rfl ?_
    rw [HF2.out]
    exact ⟨_, rfl, ⟨none, 0, rfl, RW.nil _ _⟩, ((HMV.out.ext w hwb HX2.out).drewN _).drewN _⟩
  | ok x r =>
    have hsp9 := HSP.out
    obtain ⟨_, a, hra, hsb⟩ := hsp9
    obtain ⟨g, off, t, hA, hg, _, _, h4, _, k0, k1, k2, k3⟩ := hsb.tk
    have c0 := hsb.c0
    have c1 := hsb.c1
    have c3 := hsb.c3
    have bl := hsb.lt
    rw [hA] at c0
    have haI : (a : Int) < (N : Int) := by have := hsb.at_; omega
    have HMEAS := Lib.hid (HSP.out.meas2)
    obtain ⟨kd, hkd⟩ : ∃ z, z = t.kd := ⟨_, rfl⟩
    rw [← hkd] at k0
    have HKD := Lib.hid (show (hd r).kd = kd by rw [hra, h4, hkd])
    by_cases hk : kd = 0
    · have t1 : (kd != 0) = false := by rw [bne_eq_false_iff_eq]; exact hk
      have HF2 := Lib.hid (show Y = (acc, 0, 0) by
        have h9 := HRS9.out
        rw [PR.bind_ok, RP_eq loc_EX, if_pos (by rw [HKD.out]; exact hk)] at h9
        rw [HF.out, ← h9, psQ, if_pos (by rw [HKD.out]; exact hk)])
      clear hsb k1 k2 k3 hk hkd h4 hra hA
      go_upto_region 6 with (fail)
      go_quiet (fail)
      go_wp2
      refine bodyPost_ret (v := .tuple #[.slice A9 n c9, .int .i64 0, .int .i64 0]) (by simp [results, Tryz.results15, go_sem, *]) rfl ?_
      rw [HF2.out]
      obtain ⟨A8, c8, e8, hrow⟩ := HKR.out.row
      refine ⟨_, rfl, ⟨A8, c8, e8, ?_⟩, (HMV.out.ext w hwb HX2.out).drewN _⟩
      exact (hrow.mono (fun k hk _ => by have := hbs; omega)).ext ((Ext.refl _).drewN _)
    · have t1 : (kd != 0) = true := by rw [bne_iff_ne]; exact hk
      have HKN := Lib.hid (show (hd r).kd ≠ 0 by rw [HKD.out]; exact hk)
      clear hsb k1 k2 k3 hk hkd h4 hra hA
      go_upto_region 6 with (fail)
      go_cut [41] (fun s41 wx => s41 = .bool true ∧ Ext wr wx)
      case first =>
        go_quiet (fail)
        go_wp2
        go_meet
        case rel => exact ⟨rfl, (Ext.refl _).drewN _⟩
      case rest =>
      obtain ⟨rfl, hxc⟩ := hcut
      clear c0 c1 c3 bl k0
      have HPC := Lib.hid (HSP.out.ext hxc)
      have hmc : Mv b wr wc := Mv.of_ext hxc
      have HKC := Lib.hid (HKR.out.mv hmc hbs)
      have HMC := Lib.hid (HMV.out.trans hmc)
      clear hxc hmc
      go_wp2_with fail
      refine (rrule_any HPC.out hT4).mono ?_
      rintro e w9 ⟨d, v, rfl, hrep, hp9, hm9, hv9⟩
      have HP9 := Lib.hid hp9
      have HM9 := Lib.hid hm9
      have HV9 := Lib.hid hv9
      have hVr : w2.heap.size ≤ wc.heap.size := HMC.out.size
      obtain ⟨A7, c7, w7, hrun, hkr7, hbel, hkeep, hsz7, hown7⟩ := KRr.append (HKC.out.mv HM9.out hbs) (W := wc) (fun k hk => (HKC.out.lt k hk).2) d v hrep hVr HM9.out.size (by omega) w9.heap.size rfl
      rw [hdl] at hrun hkr7 hown7
      have HRUN := Lib.hid hrun
      have HKR7 := Lib.hid hkr7
      have HKEEP := Lib.hid hkeep
      have HBEL := Lib.hid hbel
      have HSZ7 := Lib.hid hsz7
      clear hrep hp9 hm9 hv9 hrun hkr7 hkeep hbel hsz7 hown7 hVr
      unfold RlD.val
      go_wp2_with (first | (at_builtin; refine wpList_append_run (s := .tmp 42) (x := .tmp 45) HRUN.out rfl rfl rfl rfl rfl ?_))
      have hmW := HMC.out.trans HM9.out
      have hown : ∀ k9, (Value.slice A9 n c9).ownBlock = some k9 → w2.heap.size ≤ k9 := fun k9 e => (HKC.out.lt k9 e).1
      have hm7 := hmW.grow hbs (Nat.le_refl _) HBEL.out HKEEP.out hown HSZ7.out
      have hp7 : SP w7 b A N c toks 0 ((ruB (PR.ok x r : PR Unit)).bind fun y r => PR.ok y.1 r) := HP2.out.keepN (HP9.out.map _) (fun k9 h9 => HKEEP.out k9 (Nat.lt_of_lt_of_le h9 hmW.size) (fun e => by have := hown k9 e; omega))
      have HSZ := Lib.hid (show ∀ y r', ((ruB (PR.ok x r : PR Unit)).bind fun y r => PR.ok y.1 r) = .ok y r' → r'.length + 1 ≤ r.length from by
        intro y r' he
        obtain ⟨z, r1, h1, h2⟩ := PR.bind_inv he
        obtain ⟨_, rfl⟩ := PR.ok_inj h2
        obtain ⟨z2, r2, h3, h5⟩ := PR.bind_inv (x := ruleP EX r) h1
        obtain ⟨_, rfl⟩ := PR.ok_inj h5
        exact (rule_sz EX_sz h3).2.2)
      have hnr : n + r.length ≤ N := HNN.out x r rfl
      have hr1 : 1 ≤ r.length := by
        have : r ≠ [] := fun e => by have h9 := HKN.out; rw [e] at h9; exact h9 rfl
        exact List.length_pos_iff.2 this
      refine ⟨⟨n + 1, A7, c7, ds ++ [d], acc ++ [v], (ruB (PR.ok x r : PR Unit)).bind fun y r => PR.ok y.1 r, rfl, by simp [hdl], by simp [hal], ruB_next HRS9.out HKN.out HV9.out, hp7, HKR7.out, hm7, fun y r' he => by have := HSZ.out y r' he; omega, by omega⟩, ?_⟩
      rw [HMEAS.out, hp7.meas2]
      exact psV_lt HSZ.out
end
end Go.Proofs.YtnpenepdechkjaaGreatDoor

/- The laws of Parse and of Expression walked. -/
namespace Go.Proofs.YtnpenepdechkjaaGreatDoor
open Go Go.RowKit

set_option maxHeartbeats 4000000 in
set_option maxRecDepth 100000 in
theorem parses_any (s : ByteArray) (w : World) (hs : s.size ≤ 281474976710656) (hE : EnvP w) : Calls Tryz.prog 3 #[.string s] w (BQ2 true w) := by
  have HE := Lib.hid hE
  have HLV := Lib.hid (fun X (hX : Ext w X) => lives_any X (hE.ext hX))
  have HP := Lib.hid (pParse_any s w hs hE.1)
  have HR := Lib.hid (fun X => rParse_any s X hs)
  have HSZ := Lib.hid (parseR_sz s.data.toList)
  obtain ⟨Y, hY⟩ : ∃ Y, Y = parseR s.data.toList := ⟨_, rfl⟩
  rw [← hY] at HP HR HSZ
  clear hY hs hE
  obtain ⟨v, at_, er⟩ := Y
  simp only at HP HR HSZ
  go_enter Tryz.func3, Tryz.ntmps3
  go_wp2_with fail
  refine (HP.out).mono ?_
  rintro e w1 ⟨u, rfl, ⟨A1, c1, rfl, hr1⟩, hx1⟩
  have HR1 := Lib.hid hr1
  have HX1 := Lib.hid hx1
  clear hr1 hx1
  go_wp2_with fail
  refine (HR.out _).mono ?_
  rintro e w2 ⟨u, rfl, ⟨A2, c2, rfl, hr2⟩, hx2⟩
  have HR2 := Lib.hid hr2
  have HR3 := Lib.hid (HR1.out.ext hx2)
  have HX2 := Lib.hid (HX1.out.trans hx2)
  have h9 := sameR_any A1 A2 c1 c2 v v _ _ w2 (by have := HSZ.out.1; omega) (by have := HSZ.out.1; omega) (fun r hr => by have := HSZ.out.2 r hr; omega) (fun r hr => by have := HSZ.out.2 r hr; omega) HR3.out hr2
  rw [(eqRs_iff v v).2 rfl] at h9
  have HSR := Lib.hid h9
  have t1 : (at_ == at_) = true := beq_self_eq_true _
  have t2 : (er == er) = true := beq_self_eq_true _
  clear hr2 hx2 h9
  go_wp2_with fail
  refine (HSR.out).mono ?_
  rintro e w3 ⟨rfl, hx3⟩
  have HX3 := Lib.hid (HX2.out.trans hx3)
  clear hx3
  go_wp2_with fail
  refine (HLV.out _ HX3.out).mono ?_
  rintro e w4 ⟨rfl, hx4⟩
  have HX4 := Lib.hid (HX3.out.trans hx4)
  clear hx4
  go_wp2_with fail
  go_ret
  exact ⟨rfl, HX4.out⟩
end Go.Proofs.YtnpenepdechkjaaGreatDoor

/- The reference's Expression. -/
namespace Go.Proofs.YtnpenepdechkjaaGreatDoor
open Go Go.RowKit

theorem Ext.fin4 {w X : World} (h : Ext w X) (v0 v1 v2 v3 : Value) : Ext w (fin4 X w.heap.size v0 v1 v2 v3) := h.store4 (Nat.le_refl _) v0 v1 v2 v3
/-- What Expression's third word is. -/
def exQ (RES : PR Tr) : Tr × Int × Int := match RES with
  | .ok v r => if (hd r).kd = 0 then (v, 0, 0) else (.nd 0 0 [] [], (hd r).at_, 20)
  | .bad r e => (.nd 0 0 [] [], (hd r).at_, e)
set_option maxHeartbeats 4000000 in
set_option maxRecDepth 100000 in
theorem rExpr_any (s : ByteArray) (w : World) (hs : s.size ≤ 281474976710656) : Calls Tryz.prog 19 #[.string s] w (PaPost (RT w.heap.size) w (parseE s.data.toList)) := by
  have HX0 := Lib.hid ((Ext.refl w).alloc (.cells #[.int .i64 0, .int .i64 0, .string ⟨#[]⟩, .slice none 0 0] 31))
  have HN0 := Lib.hid (NX.new w 0 0 ⟨#[]⟩ (.slice none 0 0))
  have HC := Lib.hid (fun X => rtokens_any s X hs)
  have HRES := Lib.hid (show parseE s.data.toList = parseG EX (.nd 0 0 [] []) (lexT s.data.toList) from rfl)
  obtain ⟨LX, hLX⟩ : ∃ x, x = lexT s.data.toList := ⟨_, rfl⟩
  rw [← hLX] at HC HRES
  have HLX := Lib.hid hLX
  obtain ⟨Y, hY⟩ : ∃ Y, Y = parseE s.data.toList := ⟨_, rfl⟩
  rw [← hY] at HRES ⊢
  clear hLX hY hs
  by_cases hz : LX.e = 0
  case neg =>
    have hb : (LX.e != 0) = true := by rw [bne_iff_ne]; exact hz
    have HF := Lib.hid (show Y = (.nd 0 0 [] [], LX.off, LX.e) by rw [HRES.out, parseG, if_neg hz])
    clear hz
    go_enter Tryz.func19, Tryz.ntmps19
    go_upto_region 2 with (first | (go_at_call 36; refine (HC.out _).mono ?_; rintro e w1 ⟨A, c, rfl, hsl, hx, hc⟩; have HX1 := Lib.hid hx; clear hsl hx hc))
    obtain ⟨l4, x1, x2, x3, x4, x5, x6, x7, x8⟩ := (HN0.out.mv (Mv.of_ext (b := w1.heap.size + w.heap.size + 1) HX1.out) (by omega)).nb
    have HX := Lib.hid (HX0.out.trans HX1.out)
    clear HX0 HX1 HN0
    go_wp2
    refine bodyPost_ret (v := .tuple #[.agg #[.int .i64 0, .int .i64 0, .string ⟨#[]⟩, .slice none 0 0], .int .i64 LX.off, .int .i64 LX.e]) (by simp [results, Tryz.results19, go_sem, *]) rfl ?_
    rw [HF.out]
    exact ⟨_, rfl, ⟨⟨0, 0, ⟨#[]⟩, none, 0, 0⟩, rfl, Rep.leaf _ _ 0 0 []⟩, HX.out.fin4 _ _ _ _⟩
  have hb : (LX.e != 0) = false := by rw [bne_eq_false_iff_eq]; exact hz
  have hlex := lexT_ok (by rw [← HLX.out]; exact hz)
  rw [← HLX.out] at hlex
  obtain ⟨hwf, hlen, hpos, htx, hq1, hq2⟩ := hlex
  clear hq1 hq2
  obtain ⟨toks, htk⟩ : ∃ l, l = LX.l := ⟨_, rfl⟩
  obtain ⟨RES, hres⟩ : ∃ R, R = EX toks := ⟨_, rfl⟩
  have HF := Lib.hid (show Y = exQ RES by rw [HRES.out, parseG, if_pos hz, hres, htk]; cases EX LX.l <;> rfl)
  have HRS := Lib.hid hres
  obtain ⟨N, hN⟩ : ∃ n, n = LX.l.length := ⟨_, rfl⟩
  rw [← htk] at hwf htx hlen hpos
  have HTK := Lib.hid htk
  have HN := Lib.hid hN
  have HWF := Lib.hid hwf
  have HTX := Lib.hid htx
  have hNl : N ≤ 4001 := by rw [hN, ← htk]; exact hlen
  have hNp : 0 < N := by rw [hN, ← htk]; exact hpos
  clear hz hwf htx hlen hpos htk hN hres HRES HLX
  go_enter Tryz.func19, Tryz.ntmps19
  go_upto_region 4 with (first | (go_at_call 36; refine (HC.out _).mono ?_; rintro e w1 ⟨A, c, rfl, hsl, hx, hc⟩; have HX1 := Lib.hid hx; have HSL := Lib.hid hsl; clear hsl hx hc))
  rw [← HN.out]
  have hsl1 : SL tcf 4 w1 A N toks := by have := HSL.out; rw [← HTK.out] at this; rw [HN.out, ← HTK.out]; exact this
  have hx2 : Ext w1 (w1.alloc (.cells #[.slice A N c, .int .i64 0, .int .i64 0, .int .i64 0, .int .i64 0] 62)) := (Ext.refl _).alloc _
  have hsb : SB (w1.alloc (.cells #[.slice A N c, .int .i64 0, .int .i64 0, .int .i64 0, .int .i64 0] 62)) w1.heap.size A N c toks 0 0 0 0 :=
    ⟨heap_alloc_new _ _, hsl1.ext hx2, HWF.out, fun x hx => by
      obtain ⟨b9, off9, e9, hb9, _⟩ := hsl1.2 hNp
      rw [e9] at hx
      injection hx with hx
      rw [← hx]
      simp only
      omega, hNp, by omega, fun t ht => by have := HTX.out t ht; omega⟩
  have hn2 : NX (w1.alloc (.cells #[.slice A N c, .int .i64 0, .int .i64 0, .int .i64 0, .int .i64 0] 62)) w.heap.size 0 0 ⟨#[]⟩ (.slice none 0 0) := HN0.out.mv (Mv.of_ext (b := w1.heap.size + w.heap.size + 1) (HX1.out.trans hx2)) (by omega)
  have hwb : w.heap.size < w1.heap.size := by have := (HX1.out).lt; simp at this; omega
  have hbs : w1.heap.size < (w1.alloc (.cells #[.slice A N c, .int .i64 0, .int .i64 0, .int .i64 0, .int .i64 0] 62)).heap.size := by simp
  go_upto_region 5 with (fail)
  generalize w1.alloc (.cells #[.slice A N c, .int .i64 0, .int .i64 0, .int .i64 0, .int .i64 0] 62) = w2 at *
  have HX2 := Lib.hid ((HX0.out.trans HX1.out).trans hx2)
  clear hx2
  generalize w1.heap.size = b at *
  have hTN : toks.length = N := hsb.len.symm
  have HP2 := Lib.hid (show SP w2 b A N c toks 0 (PR.ok () toks) from ⟨by decide, 0, rfl, hsb⟩)
  have HN2 := Lib.hid hn2
  clear hsb HC HSL hsl1 HX0 HX1 HN0 hn2
  have hT4 : toks.length ≤ 4001 := by omega
  go_wp2_with fail
  refine (rexpr1_any HP2.out hT4).mono ?_
  rintro e w3 ⟨d, t, rfl, hr, hp, hm, hv⟩
  have hx4 : Ext w3 (w3.alloc (.cells #[.int .i64 d.k, .int .i64 d.n, .string d.s, .slice d.A d.m d.c] 31)) := (Ext.refl _).alloc _
  have hn4 := NX.new w3 d.k d.n d.s (.slice d.A d.m d.c)
  have hq : exB (exprP 40000) 1 0 (PR.ok () toks : PR Unit) = RES.bind fun t r => .ok ((), t) r := by
    have hE : ∀ r, exprP 40000 1 0 r = EX r := fun _ => rfl
    simp only [HRS.out, exB, PR.bind_ok, hE]
  rw [hq] at hp hv
  have HR4 := Lib.hid ((hr.mono (Q := fun k => w.heap.size + 1 ≤ k) (fun k h1 _ => by omega)).ext hx4)
  have HP4 := Lib.hid (hp.ext hx4)
  have HN4 := Lib.hid ((HN2.out.mv hm (by omega)).mv (Mv.of_ext (b := b) hx4) (by omega))
  have HM4 := Lib.hid (hm.trans (Mv.of_ext hx4))
  have HV := Lib.hid hv
  have hb3 : b < w3.heap.size := by have := hm.size; omega
  clear hr hp hm hv hq
  go_upto_region 6 with (fail)
  generalize w3.alloc (.cells #[.int .i64 d.k, .int .i64 d.n, .string d.s, .slice d.A d.m d.c] 31) = w4 at *
  generalize w3.heap.size = g9 at *
  have HK4 := Lib.hid hn4
  clear hx4 hn4
  cases RES with
  | bad r er =>
    obtain ⟨_, her, a, hra, hsb⟩ := HP4.out
    have c3 := hsb.c3
    have c4 := hsb.c4
    have bl := hsb.lt
    have t0 : (er == 0) = false := beq_eq_false_iff_ne.2 her
    have t1 : (er != 0) = true := by rw [bne_iff_ne]; exact her
    have HF2 := Lib.hid (show Y = (.nd 0 0 [] [], (hd r).at_, er) from HF.out)
    clear hsb her
    obtain ⟨l4, x1, x2, x3, x4, x5, x6, x7, x8⟩ := HN4.out.nb
    go_quiet (fail)
    go_upto_region 9 with (fail)
    go_region
    all_goals
      go_wp2
      refine bodyPost_ret (v := .tuple #[.agg #[.int .i64 0, .int .i64 0, .string ⟨#[]⟩, .slice none 0 0], .int .i64 (hd r).at_, .int .i64 er]) (by simp [results, Tryz.results19, go_sem, *]) rfl ?_
      rw [HF2.out]
      refine ⟨_, rfl, ⟨⟨0, 0, ⟨#[]⟩, none, 0, 0⟩, rfl, Rep.leaf _ _ 0 0 []⟩, ?_⟩
      have h9 := HM4.out.ext w (by omega) HX2.out
      first
        | exact (((h9.drewN _).fin4 _ _ _ _).drewN _)
        | exact (((h9.drewN _).fin4 _ _ _ _).drew)
        | exact (((h9.drewN _).drew).fin4 _ _ _ _)
  | ok v r =>
    have hsp9 := HP4.out
    obtain ⟨_, a, hra, hsb⟩ := hsp9
    have htv : t = v := HV.out () v r rfl
    subst htv
    obtain ⟨g, off, tk, hA, hg, _, _, h4, _, k0, k1, k2, k3⟩ := hsb.tk
    have c0 := hsb.c0
    have c1 := hsb.c1
    have c3 := hsb.c3
    have bl := hsb.lt
    rw [hA] at c0
    have haI : (a : Int) < (N : Int) := by have := hsb.at_; omega
    obtain ⟨kd, hkd⟩ : ∃ z, z = tk.kd := ⟨_, rfl⟩
    rw [← hkd] at k0
    have HKD := Lib.hid (show (hd r).kd = kd by rw [hra, h4, hkd])
    by_cases hk : kd = 0
    · have t1 : (kd != 0) = false := by rw [bne_eq_false_iff_eq]; exact hk
      have HF2 := Lib.hid (show Y = (t, 0, 0) by rw [HF.out, exQ, if_pos (by rw [HKD.out]; exact hk)])
      obtain ⟨l4, x1, x2, x3, x4, x5, x6, x7, x8⟩ := HN4.out.nb
      obtain ⟨m4, y1, y2, y3, y4, _, _, _, _⟩ := HK4.out.nb
      clear hsb k1 k2 k3 hk hkd h4 hra hA
      go_cut [44] (fun s44 wx => s44 = .bool false ∧ Ext w4 wx)
      case first =>
        go_quiet (fail)
        go_wp2
        go_meet
        case rel => exact ⟨rfl, (Ext.refl _).drewN _⟩
      case rest =>
      obtain ⟨rfl, hxc⟩ := hcut
      clear c0 c1 c3 bl k0 l4 x1 x2 x3 x4 x5 x6 x7 x8 m4 y1 y2 y3 y4
      obtain ⟨_, a2, _, hsb⟩ := HP4.out.ext hxc
      have c3 := hsb.c3
      have bl := hsb.lt
      obtain ⟨l4, x1, x2, x3, x4, x5, x6, x7, x8⟩ := (HN4.out.mv (Mv.of_ext (b := b) hxc) (by omega)).nb
      obtain ⟨m4, y1, y2, y3, y4, _, _, _, _⟩ := (HK4.out.mv (Mv.of_ext (b := b) hxc) (by omega)).nb
      have HXC := Lib.hid hxc
      clear hsb hxc
      go_wp2
      refine bodyPost_ret (v := .tuple #[.agg #[.int .i64 d.k, .int .i64 d.n, .string d.s, .slice d.A d.m d.c], .int .i64 0, .int .i64 0]) (by simp [results, Tryz.results19, go_sem, *]) rfl ?_
      rw [HF2.out]
      exact ⟨_, rfl, ⟨d, rfl, Rep.fin (HR4.out.ext HXC.out) (by omega) _ _ _ _⟩, ((HM4.out.ext w (by omega) HX2.out).trans HXC.out).fin4 _ _ _ _⟩
    · have t1 : (kd != 0) = true := by rw [bne_iff_ne]; exact hk
      have HF2 := Lib.hid (show Y = (.nd 0 0 [] [], (hd r).at_, 20) by rw [HF.out, exQ, if_neg (by rw [HKD.out]; exact hk)])
      clear hsb k1 k2 k3 hk hkd h4 hra hA
      go_cut [44] (fun s44 wx => s44 = .bool true ∧ Ext w4 wx)
      case first =>
        go_quiet (fail)
        go_wp2
        go_meet
        case rel => exact ⟨rfl, (Ext.refl _).drewN _⟩
      case rest =>
      obtain ⟨rfl, hxc⟩ := hcut
      clear c0 c1 c3 bl k0
      have HPC := Lib.hid (HP4.out.ext hxc)
      have HNC := Lib.hid (HN4.out.mv (Mv.of_ext (b := b) hxc) (by omega))
      have HMC := Lib.hid (HM4.out.trans (Mv.of_ext hxc))
      clear hxc
      go_wp2_with fail
      refine (rfail_any HPC.out 20 (by decide)).mono ?_
      rintro e w6 ⟨rfl, hp6, hm6⟩
      have HP6 := Lib.hid hp6
      have HM6 := Lib.hid (HMC.out.trans hm6)
      obtain ⟨l4, x1, x2, x3, x4, x5, x6, x7, x8⟩ := (HNC.out.mv hm6 (by omega)).nb
      obtain ⟨_, her, a2, hra2, hsb⟩ := hp6
      have c3 := hsb.c3
      have c4 := hsb.c4
      have bl := hsb.lt
      clear hsb hm6
      go_upto_region 9 with (fail)
      go_region
      all_goals
        go_wp2
        refine bodyPost_ret (v := .tuple #[.agg #[.int .i64 0, .int .i64 0, .string ⟨#[]⟩, .slice none 0 0], .int .i64 (hd r).at_, .int .i64 20]) (by simp [results, Tryz.results19, go_sem, *]) rfl ?_
        rw [HF2.out]
        refine ⟨_, rfl, ⟨⟨0, 0, ⟨#[]⟩, none, 0, 0⟩, rfl, Rep.leaf _ _ 0 0 []⟩, ?_⟩
        have h9 := HM6.out.ext w (by omega) HX2.out
        first
          | exact ((h9.fin4 _ _ _ _).drewN _)
          | exact ((h9.fin4 _ _ _ _).drew)
          | exact ((h9.drew).fin4 _ _ _ _)
theorem parseE_sz (s : List UInt8) : tsz (parseE s).1 ≤ 100000 := by
  unfold parseE parseG
  by_cases he : (lexT s).e = 0
  · rw [if_pos he]
    have hl := (lexT_ok he).2.1
    cases h : EX (lexT s).l with
    | bad r e => show tsz (.nd 0 0 [] []) ≤ _; decide
    | ok v r =>
      have := EX_sz _ _ _ h
      show tsz (if (hd r).kd = 0 then (v, (0 : Int), (0 : Int)) else (.nd 0 0 [] [], (hd r).at_, 20)).1 ≤ _
      split
      · show tsz v ≤ _; omega
      · show tsz (.nd 0 0 [] []) ≤ _; decide
  · rw [if_neg he]; show tsz (.nd 0 0 [] []) ≤ _; decide
set_option maxHeartbeats 4000000 in
set_option maxRecDepth 100000 in
theorem exprs_any (s : ByteArray) (w : World) (hs : s.size ≤ 281474976710656) (hE : EnvP w) : Calls Tryz.prog 4 #[.string s] w (BQ2 true w) := by
  have HE := Lib.hid hE
  have HLV := Lib.hid (fun X (hX : Ext w X) => lives_any X (hE.ext hX))
  have HP := Lib.hid (pExpr_any s w hs hE.1)
  have HR := Lib.hid (fun X => rExpr_any s X hs)
  have HSZ := Lib.hid (show tsz (parseE s.data.toList).1 ≤ 100000 from parseE_sz s.data.toList)
  obtain ⟨Y, hY⟩ : ∃ Y, Y = parseE s.data.toList := ⟨_, rfl⟩
  rw [← hY] at HP HR HSZ
  clear hY hs hE
  obtain ⟨v, at_, er⟩ := Y
  simp only at HP HR HSZ
  go_enter Tryz.func4, Tryz.ntmps4
  go_wp2_with fail
  refine (HP.out).mono ?_
  rintro e w1 ⟨u, rfl, ⟨d1, rfl, hr1⟩, hx1⟩
  have hx2 : Ext w1 (w1.alloc (.cells #[.int .i64 d1.k, .int .i64 d1.n, .string d1.s, .slice d1.A d1.m d1.c] 31)) := (Ext.refl _).alloc _
  have hn2 := NX.new w1 d1.k d1.n d1.s (.slice d1.A d1.m d1.c)
  have HR2 := Lib.hid (hr1.ext hx2)
  have HX2 := Lib.hid (hx1.trans hx2)
  clear hr1 hx1
  go_upto_region 2 with (fail)
  generalize w1.alloc (.cells #[.int .i64 d1.k, .int .i64 d1.n, .string d1.s, .slice d1.A d1.m d1.c] 31) = w2 at *
  generalize w1.heap.size = g1 at *
  have HN2 := Lib.hid hn2
  clear hn2 hx2
  go_wp2_with fail
  refine (HR.out _).mono ?_
  rintro e w3 ⟨u, rfl, ⟨d2, rfl, hr3⟩, hx3⟩
  have hx4 : Ext w3 (w3.alloc (.cells #[.int .i64 d2.k, .int .i64 d2.n, .string d2.s, .slice d2.A d2.m d2.c] 31)) := (Ext.refl _).alloc _
  have hn4 := NX.new w3 d2.k d2.n d2.s (.slice d2.A d2.m d2.c)
  have HR4 := Lib.hid (hr3.ext hx4)
  have HR5 := Lib.hid (HR2.out.ext (hx3.trans hx4))
  have HX4 := Lib.hid (HX2.out.trans (hx3.trans hx4))
  have HN5 := Lib.hid (HN2.out.mv (Mv.of_ext (b := g1 + 1) (hx3.trans hx4)) (by omega))
  clear hr3 hx3
  go_upto_region 3 with (fail)
  generalize w3.alloc (.cells #[.int .i64 d2.k, .int .i64 d2.n, .string d2.s, .slice d2.A d2.m d2.c] 31) = w4 at *
  generalize w3.heap.size = g2 at *
  have h9 := same_any 100000 v v d1 d2 _ _ w4 HSZ.out (by have := HSZ.out; omega) (by have := HSZ.out; omega) HR5.out HR4.out
  rw [(eqT_iff v v).2 rfl] at h9
  have HSR := Lib.hid h9
  have t1 : (at_ == at_) = true := beq_self_eq_true _
  have t2 : (er == er) = true := beq_self_eq_true _
  obtain ⟨l4, x1, x2, x3, x4, _, _, _, _⟩ := hn4.nb
  obtain ⟨m4, y1, y2, y3, y4, _, _, _, _⟩ := HN5.out.nb
  clear hx4 h9 hn4
  go_wp2_with fail
  refine (HSR.out).mono ?_
  rintro e w5 ⟨rfl, hx5⟩
  have HX5 := Lib.hid (HX4.out.trans hx5)
  clear hx5
  go_wp2_with fail
  refine (HLV.out _ HX5.out).mono ?_
  rintro e w6 ⟨rfl, hx6⟩
  have HX6 := Lib.hid (HX5.out.trans hx6)
  clear hx6
  go_wp2_with fail
  go_ret
  exact ⟨rfl, HX6.out⟩
end Go.Proofs.YtnpenepdechkjaaGreatDoor
