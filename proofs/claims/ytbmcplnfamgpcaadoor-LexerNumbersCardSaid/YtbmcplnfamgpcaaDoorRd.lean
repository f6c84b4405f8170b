/- The reference's day of a date, and of ten bytes. -/
import Derived.Test.YtbmcplnfamgpcaaDoorRa
namespace Go.Proofs.YtbmcplnfamgpcaaDoor
open Go Go.RowKit

theorem mdays_le (y : Nat) : ∀ m, mdays y m ≤ 31 * m
  | 0 => Nat.zero_le _
  | 1 => Nat.zero_le _
  | m + 2 => by have := mdays_le y (m + 1); have := mlen_le y (m + 1); rw [mdays]; omega
theorem mdays_step (y k : Nat) (h : 1 ≤ k) : mdays y (k + 1) = mdays y k + mlen y k := by
  obtain ⟨k, rfl⟩ : ∃ i, k = i + 1 := ⟨k - 1, by omega⟩
  rw [mdays]
def stN (y : Nat) : Nat := 365 * (y - 1) + (y - 1) / 4 - (y - 1) / 100 + (y - 1) / 400
theorem stN_le {y : Nat} (h : y ≤ 9999) : stN y ≤ 4000000 := by unfold stN; omega
def NRel (y m d : Nat) (n k : Value) : Prop := ∃ j, 1 ≤ j ∧ j ≤ m ∧ k = .int .i64 j ∧ n = .int .i64 ((stN y : Nat) + (d : Nat) - 1 + (mdays y j : Nat))
def numM (m : Nat) (k : Value) : Nat := match k with | .int _ z => m - z.toNat | _ => 0
set_option maxHeartbeats 4000000 in
set_option maxRecDepth 100000 in
theorem rnumber_any (y m d : Nat) (w : World) (hy : 1 ≤ y) (hy2 : y ≤ 9999) (hm1 : 1 ≤ m) (hm : m ≤ 12) (hd1 : 1 ≤ d) (hd : d ≤ 31) :
    Calls Tryd.prog 87 #[.agg #[.int .i64 y, .int .i64 m, .int .i64 d]] w (fun e w' => e = .returned (.int .i64 (dayNo y m d : Nat)) ∧ Ext w w') := by
  have HS := Lib.hid (fun X => rstart_any y X hy (by omega))
  have HL := Lib.hid (fun (k : Nat) (h1 : 1 ≤ k) (h2 : k ≤ 12) X => rlength_any y k X (by omega) h1 h2)
  have HF := Lib.hid (show ((stN y : Nat) : Int) + d - 1 + (mdays y m : Nat) = (dayNo y m d : Nat) by unfold dayNo stN; omega)
  rw [show 365 * (y - 1) + (y - 1) / 4 - (y - 1) / 100 + (y - 1) / 400 = stN y from rfl] at HS
  have hst := stN_le hy2
  have HM := Lib.hid (mdays_le y)
  have HT := Lib.hid (mdays_step y)
  have HN := Lib.hid (mlen_le y)
  obtain ⟨S, hS⟩ : ∃ S, S = stN y := ⟨_, rfl⟩
  rw [← hS] at HS hst HF
  have HSS := Lib.hid hS
  clear hS
  go_enter Tryd.func87, Tryd.ntmps87
  go_wp2
  go_quiet (first | (go_at_call 99; refine Calls.quiet_of_same ((HS.out _).mono fun _ _ h => h)))
  go_wp2
  go_loop [3, 4] (fun n k => NRel y m d n k) (fun _ k => numM m k)
  case atStart => exact ⟨1, by omega, hm1, rfl, by rw [← HSS.out]; simp [mdays]⟩
  case round =>
    obtain ⟨j, hj1, hj, rfl, rfl⟩ := hrel
    rw [← HSS.out]
    by_cases hjm : j < m
    · have hjm' : (j : Int) < (m : Int) := by omega
      have h31 := HM.out j
      have hst2 := HT.out j hj1
      have hln := HN.out j
      have HC := Lib.hid (HL.out j hj1 (by omega))
      obtain ⟨D, hD⟩ : ∃ D, D = mdays y j := ⟨_, rfl⟩
      obtain ⟨L, hLL⟩ : ∃ L, L = mlen y j := ⟨_, rfl⟩
      rw [← hD] at h31 hst2 ⊢
      rw [← hLL] at hst2 hln HC
      have HST := Lib.hid hst2
      clear hst2 hD hLL
      go_wp2_with (first | (go_at_call 98; refine (HC.out _).mono ?_; rintro e w1 ⟨rfl, rfl⟩))
      refine ⟨⟨j + 1, by omega, by omega, rfl, ?_⟩, by simp [numM]; omega⟩
      rw [← HSS.out, HST.out]; congr 1; omega
    · obtain rfl : j = m := by omega
      have hjm' : ¬ (j : Int) < (j : Int) := by omega
      go_wp2
      go_ret
      exact ⟨ret_int HF.out, ((Ext.refl _).alloc _).drewN _⟩
set_option maxHeartbeats 4000000 in
set_option maxRecDepth 100000 in
theorem rday_any (y m d : Nat) (w : World) (hy : y ≤ 100000) (hm : m ≤ 1000) (hd : d ≤ 1000) : Calls Tryd.prog 72 #[.agg #[.int .i64 y, .int .i64 m, .int .i64 d]] w (DayPost y m d w) := by
  have HC := Lib.hid (fun X => rcheck_any y m d X hy hm hd)
  cases hb : dateB y m d with
  | true =>
    have hi := date_iff hb
    have HN := Lib.hid (fun X => rnumber_any y m d X hi.1 hi.2.1 hi.2.2.1 hi.2.2.2.1 hi.2.2.2.2.1 hi.2.2.2.2.2)
    have hce : chkE y m d = 0 := by rw [chkE, hb]; rfl
    have HE := Lib.hid hce
    have HB := Lib.hid hb
    rw [hce] at HC
    clear hi hb hce
    go_enter Tryd.func72, Tryd.ntmps72
    go_wp2_with (first | (go_at_call 86; refine (HC.out _).mono ?_; rintro e w1 ⟨rfl, hx⟩; have hc1 := hx.cells.1 w.heap.size; have hx0 := ((Ext.refl w).alloc _).trans hx) | (go_at_call 87; refine (HN.out _).mono ?_; rintro e w2 ⟨rfl, hx2⟩))
    refine bodyPost_ret (v := .tuple #[.int .i64 (dayNo y m d : Nat), .int .i64 0]) (by simp [results, Tryd.results72, go_sem, *]) rfl ?_
    exact ⟨by rw [HE.out, HB.out]; rfl, hx0.trans hx2⟩
  | false =>
    have hce : chkE y m d = 5 := by rw [chkE, hb]; rfl
    have HE := Lib.hid hce
    have HB := Lib.hid hb
    rw [hce] at HC
    clear hb hce
    go_enter Tryd.func72, Tryd.ntmps72
    go_wp2_with (first | (go_at_call 86; refine (HC.out _).mono ?_; rintro e w1 ⟨rfl, hx⟩; have hc1 := hx.cells.1 w.heap.size; have hx0 := ((Ext.refl w).alloc _).trans hx))
    refine bodyPost_ret (v := .tuple #[.int .i64 0, .int .i64 5]) (by simp [results, Tryd.results72, go_sem, *]) rfl ?_
    exact ⟨by rw [HE.out, HB.out]; rfl, hx0⟩
theorem low_get' (s : ByteArray) (i : Nat) (h : i < s.size) : s.data.toList[i]? = some (s[i]'h) := by
  have h' : i < s.data.toList.length := by rw [list_size]; exact h
  rw [List.getElem?_eq_getElem h']; rfl
def DgRel (L : List UInt8) (x : Nat) (n i : Value) : Prop := ∃ j, j ≤ L.length ∧ i = .int .i64 (x + j : Nat) ∧ n = .int .i64 (dval 0 (L.take j) : Nat)
def dgM (y : Nat) (k : Value) : Nat := match k with | .int _ z => y - z.toNat | _ => 0
set_option maxHeartbeats 4000000 in
set_option maxRecDepth 100000 in
theorem rdigits_any (s : ByteArray) (x y : Nat) (w : World) (hxy : x ≤ y) (hy : y ≤ s.size) (hs : s.size ≤ 100) (hyx : y - x ≤ 4) (hd : ((s.data.toList.drop x).take (y - x)).all dig = true) :
    Calls Tryd.prog 71 #[.string s, .int .i64 x, .int .i64 y] w (fun e w' => e = .returned (.int .i64 (dval 0 ((s.data.toList.drop x).take (y - x)) : Nat)) ∧ w' = w) := by
  obtain ⟨L, hL⟩ : ∃ L, L = (s.data.toList.drop x).take (y - x) := ⟨_, rfl⟩
  have hlen : L.length = y - x := by rw [hL, List.length_take, List.length_drop, list_size]; omega
  have hget : ∀ j, j < L.length → ∀ h : x + j < s.size, s[x + j]'h = L.getD j 0 := fun j hj h => by
    have e : L[j]? = some (s[x + j]'h) := by
      rw [hL, List.getElem?_take, if_pos (by omega), List.getElem?_drop]
      exact low_get' s (x + j) h
    rw [List.getD_eq_getElem?_getD, e]; rfl
  rw [← hL] at hd ⊢
  clear hL
  have HD := Lib.hid hd
  have HG := Lib.hid hget
  have HLEN := Lib.hid hlen
  clear hd hget hlen
  go_enter Tryd.func71, Tryd.ntmps71
  go_wp2
  go_loop [7, 8] (fun n i => DgRel L x n i) (fun _ i => dgM y i)
  case atStart => exact ⟨0, by omega, rfl, rfl⟩
  case round =>
    obtain ⟨j, hj, rfl, rfl⟩ := hrel
    by_cases hjl : j < L.length
    · have hye := HLEN.out
      have hlt : x + j < s.size := by omega
      have hg := HG.out j hjl
      have hdg := HD.out
      have hst := dval_take hjl
      have hk : 48 ≤ (L.getD j 0).toNat ∧ (L.getD j 0).toNat ≤ 57 := by
        have hm : L.getD j 0 ∈ L := by simp [List.getD, hjl]
        exact dig_iff.1 (List.all_eq_true.1 hdg _ hm)
      have hdv : dval 0 (L.take j) < 10 ^ 4 := dval_lt _ 4 (by rw [List.length_take]; omega) (by
        rw [List.all_eq_true] at hdg ⊢; exact fun a ha => hdg a (List.mem_of_mem_take ha))
      obtain ⟨k, hkk⟩ : ∃ k, k = L.getD j 0 := ⟨_, rfl⟩
      obtain ⟨u, huu⟩ : ∃ u, u = dval 0 (L.take j) := ⟨_, rfl⟩
      rw [← hkk] at hg hk hst
      rw [← huu] at hdv hst ⊢
      have hu4 : u < 10000 := hdv
      have hk1 : ¬ (k.toNat : Int) < 48 := by omega
      have hk2 : ¬ (57 : Int) < (k.toNat : Int) := by omega
      have hi' : ((x + j : Nat) : Int) < (y : Int) := by omega
      have HST := Lib.hid hst
      clear hst hdv hdg hkk huu
      have hlt2 := Nat.lt_of_lt_of_le hlt hs
      have HM := Lib.hid (show ∀ p, p = x + j → DgRel L x (.int .i64 (10 * (u : Int) + (k.toNat : Int) - 48)) (.int .i64 ((p : Int) + 1)) ∧ dgM y (.int .i64 ((p : Int) + 1)) < dgM y (.int .i64 (p : Int)) by
        rintro p rfl
        exact ⟨⟨j + 1, by omega, by congr 1, by rw [HST.out]; congr 1; omega⟩, by simp only [dgM]; omega⟩)
      obtain ⟨p, hp⟩ : ∃ p, p = x + j := ⟨_, rfl⟩
      rw [← hp] at hlt hlt2 hg hi' ⊢
      have HQ := Lib.hid (HM.out p hp)
      clear hp hye
      go_wp2
      exact HQ.out
    · obtain rfl : j = L.length := by omega
      have hye := HLEN.out
      have hi' : ¬ ((x + L.length : Nat) : Int) < (y : Int) := by omega
      obtain ⟨p, hp⟩ : ∃ p, p = x + L.length := ⟨_, rfl⟩
      rw [← hp] at hi' ⊢
      clear hp hye
      go_wp2
      go_ret
      exact ⟨ret_int (by first | rfl | rw [List.take_length]), rfl⟩
set_option maxHeartbeats 4000000 in
set_option maxRecDepth 100000 in
theorem rparse_any (s : ByteArray) (w : World) (hT : Ten s) : Calls Tryd.prog 54 #[.string s] w (DayPost (yOf s) (mOf s) (dOf s) w) := by
  have hs := hT.size
  have hq4 : ∀ h : 4 < s.size, (((s[4]'h).toNat : Int) != 45) = false := fun h => by rw [ten_get s 4 hT.m4 h]; decide
  have hq7 : ∀ h : 7 < s.size, (((s[7]'h).toNat : Int) != 45) = false := fun h => by rw [ten_get s 7 hT.m7 h]; decide
  have hy : yOf s < 10000 := dval_lt _ 4 (by rw [List.length_take]; omega) hT.d4
  have hm : mOf s < 100 := dval_lt _ 2 (by rw [List.length_take]; omega) hT.d5
  have hd : dOf s < 100 := dval_lt _ 2 (by rw [List.length_take]; omega) hT.d8
  have H0 := Lib.hid (fun W => rdigits_any s 0 4 W (by omega) (by omega) (by omega) (by omega) hT.d4)
  have H5 := Lib.hid (fun W => rdigits_any s 5 7 W (by omega) (by omega) (by omega) (by omega) hT.d5)
  have H8 := Lib.hid (fun W => rdigits_any s 8 10 W (by omega) (by omega) (by omega) (by omega) hT.d8)
  have HD := Lib.hid (fun X => rday_any (yOf s) (mOf s) (dOf s) X (by omega) (by omega) (by omega))
  clear hT
  rw [show dval 0 ((s.data.toList.drop 0).take (4 - 0)) = yOf s from rfl] at H0
  rw [show dval 0 ((s.data.toList.drop 5).take (7 - 5)) = mOf s from rfl] at H5
  rw [show dval 0 ((s.data.toList.drop 8).take (10 - 8)) = dOf s from rfl] at H8
  generalize yOf s = y at *
  generalize mOf s = m at *
  generalize dOf s = d at *
  unfold DayPost at HD ⊢
  generalize ((if dateB y m d then dayNo y m d else 0 : Nat) : Int) = N at *
  generalize chkE y m d = E at *
  go_enter Tryd.func54, Tryd.ntmps54
  go_wp2_with (first | (have hg := A2; clear hg; go_at_call 71; refine (H8.out _).mono ?_; rintro e w1 ⟨rfl, rfl⟩) | (have hg := A1; clear hg; go_at_call 71; refine (H5.out _).mono ?_; rintro e w1 ⟨rfl, rfl⟩; have A2 := Lib.hid True.intro) | (go_at_call 71; refine (H0.out _).mono ?_; rintro e w1 ⟨rfl, rfl⟩; have A1 := Lib.hid True.intro) | (go_at_call 72; refine (HD.out _).mono ?_; rintro e w4 ⟨rfl, hx4⟩))
  refine bodyPost_ret (v := .tuple #[.int .i64 N, .int .i64 E]) (by simp [results, Tryd.results54, go_sem, *]) rfl ?_
  exact ⟨rfl, ((Ext.refl _).alloc _).trans hx4⟩
end Go.Proofs.YtbmcplnfamgpcaaDoor
