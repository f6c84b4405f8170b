/- The contract of the reference's 'token'. -/
import Derived.Test.YtbmcplnfamgpcaaDoorRb
import Derived.Deep.RegionHeld3
namespace Go.Proofs.YtbmcplnfamgpcaaDoor
open Go Go.RowKit

def HwRel (p : UInt8 → Bool) (l : List UInt8) (n : Value) : Prop := ∃ j, j ≤ l.length ∧ n = .int .i64 (j : Nat) ∧ j + twn p (l.drop j) = twn p l
theorem tok1_at {s : ByteArray} {c : UInt8} {r : List UInt8} {t : T1} {w : World} {e : Ending} {w' : World} (hl : s.data.toList = c :: r) (ht : tok1 (c :: r) = t) (h : TPost t s w e w') : TPost (tok1 s.data.toList) s w e w' := by
  rw [hl, ht]; exact h
set_option maxHeartbeats 4000000 in
set_option maxRecDepth 100000 in
theorem rtok_word (s : ByteArray) (w : World) (hs : s.size ≤ 281474976710656) (h0 : 0 < s.size) (hlo : low (s[0]'h0) = true) : Calls Tryd.prog 36 #[.string s] w (TPost (wordT s.data.toList) s w) := by
  obtain ⟨c, hc⟩ : ∃ c : UInt8, c = s[0]'h0 := ⟨_, rfl⟩
  rw [← hc] at hlo
  have hgt : ∀ h : 0 < s.size, s[0]'h = c := fun h => hc.symm
  clear hc
  have HC0 := Lib.hid (fun X => rletter_any c X)
  rw [hlo] at HC0
  clear hlo
  have HLL := Lib.hid (fun b X => rletter_any b X)
  have HDD := Lib.hid (fun b X => rdigit_any b X)
  have hz := twn_size wch s
  obtain ⟨N, hN⟩ : ∃ N, N = twn wch s.data.toList := ⟨_, rfl⟩
  rw [← hN] at hz
  have HNN := Lib.hid hN
  clear hN
  by_cases h12 : 12 < N
  · have h12' : (12 : Int) < (N : Int) := by omega
    have HT := Lib.hid (show wordT s.data.toList = .err 2 by rw [wordT, ← HNN.out, if_pos h12])
    go_enter Tryd.func36, Tryd.ntmps36
    go_wp2_with (first | (go_at_call 50; refine (HC0.out _).mono ?_; rintro e w1 ⟨rfl, rfl⟩))
    go_loop [4] (fun n => HwRel wch s.data.toList n) (fun n => tokM' s.size n)
    case atStart => exact ⟨0, by omega, rfl, by rw [List.drop_zero, Nat.zero_add]⟩
    case round =>
      obtain ⟨j, hj, rfl, hn⟩ := hrel
      have HN := Lib.hid hn
      rw [list_size] at hj
      clear hn
      by_cases hjl : j < s.size
      · have hlj := get_list s j hjl
        obtain ⟨b, hb⟩ : ∃ b : UInt8, b = s[j]'hjl := ⟨_, rfl⟩
        rw [← hb] at hlj
        have hgj : ∀ h : j < s.size, s[j]'h = b := fun h => hb.symm
        have HLJ := Lib.hid hlj
        clear hlj hb
        have HLB := Lib.hid (HLL.out b)
        have HDB := Lib.hid (HDD.out b)
        cases hlo : low b with
        | true =>
          rw [hlo] at HLB
          have HF := Lib.hid (show j + 1 + twn wch (s.data.toList.drop (j + 1)) = twn wch s.data.toList by rw [← HN.out, HLJ.out, twn_go (by simp [wch, hlo])]; omega)
          clear hlo
          go_wp2_with (first | (go_at_call 50; refine (HLB.out _).mono ?_; rintro e w1 ⟨rfl, rfl⟩) | (go_at_call 51; refine (HDB.out _).mono ?_; rintro e w1 ⟨rfl, rfl⟩))
          exact ⟨⟨j + 1, by rw [list_size]; omega, rfl, HF.out⟩, by simp only [tokM']; omega⟩
        | false =>
          rw [hlo] at HLB
          cases hdi : dig b with
          | true =>
            rw [hdi] at HDB
            have HF := Lib.hid (show j + 1 + twn wch (s.data.toList.drop (j + 1)) = twn wch s.data.toList by rw [← HN.out, HLJ.out, twn_go (by simp [wch, hdi])]; omega)
            clear hlo hdi
            go_wp2_with (first | (go_at_call 50; refine (HLB.out _).mono ?_; rintro e w1 ⟨rfl, rfl⟩) | (go_at_call 51; refine (HDB.out _).mono ?_; rintro e w1 ⟨rfl, rfl⟩))
            exact ⟨⟨j + 1, by rw [list_size]; omega, rfl, HF.out⟩, by simp only [tokM']; omega⟩
          | false =>
            rw [hdi] at HDB
            obtain rfl : j = N := by rw [HNN.out, ← HN.out]; rw [HLJ.out, twn_stop (by simp [wch, hlo, hdi])]; rfl
            clear hlo hdi
            go_wp2_with (first | (go_at_call 50; refine (HLB.out _).mono ?_; rintro e w1 ⟨rfl, rfl⟩) | (go_at_call 51; refine (HDB.out _).mono ?_; rintro e w1 ⟨rfl, rfl⟩))
            refine bodyPost_ret (v := .tuple #[.agg #[.int .i64 0, .int .i64 0, .string ⟨#[]⟩, .int .i64 0], .int .i64 2]) (by simp [results, Tryd.results36, go_sem, *]) rfl ?_
            exact tpost_err HT.out rfl ((Ext.refl w).alloc _)
      · obtain rfl : j = N := by
          rw [HNN.out, ← HN.out, show j = s.size by omega, drop_end s s.size (by omega)]; rfl
        have hje : ¬ ((j : Int) < (s.size : Int)) := by omega
        go_wp2_with (first | (go_at_call 50; refine (HLL.out _ _).mono ?_; rintro e w1 ⟨rfl, rfl⟩) | (go_at_call 51; refine (HDD.out _ _).mono ?_; rintro e w1 ⟨rfl, rfl⟩))
        refine bodyPost_ret (v := .tuple #[.agg #[.int .i64 0, .int .i64 0, .string ⟨#[]⟩, .int .i64 0], .int .i64 2]) (by simp [results, Tryd.results36, go_sem, *]) rfl ?_
        exact tpost_err HT.out rfl ((Ext.refl w).alloc _)
  · have h12' : ¬ (12 : Int) < (N : Int) := by omega
    have HT := Lib.hid (show wordT s.data.toList = .ok 1 N 0 by rw [wordT, ← HNN.out, if_neg h12])
    go_enter Tryd.func36, Tryd.ntmps36
    go_wp2_with (first | (go_at_call 50; refine (HC0.out _).mono ?_; rintro e w1 ⟨rfl, rfl⟩))
    go_loop [4] (fun n => HwRel wch s.data.toList n) (fun n => tokM' s.size n)
    case atStart => exact ⟨0, by omega, rfl, by rw [List.drop_zero, Nat.zero_add]⟩
    case round =>
      obtain ⟨j, hj, rfl, hn⟩ := hrel
      have HN := Lib.hid hn
      rw [list_size] at hj
      clear hn
      by_cases hjl : j < s.size
      · have hlj := get_list s j hjl
        obtain ⟨b, hb⟩ : ∃ b : UInt8, b = s[j]'hjl := ⟨_, rfl⟩
        rw [← hb] at hlj
        have hgj : ∀ h : j < s.size, s[j]'h = b := fun h => hb.symm
        have HLJ := Lib.hid hlj
        clear hlj hb
        have HLB := Lib.hid (HLL.out b)
        have HDB := Lib.hid (HDD.out b)
        cases hlo : low b with
        | true =>
          rw [hlo] at HLB
          have HF := Lib.hid (show j + 1 + twn wch (s.data.toList.drop (j + 1)) = twn wch s.data.toList by rw [← HN.out, HLJ.out, twn_go (by simp [wch, hlo])]; omega)
          clear hlo
          go_wp2_with (first | (go_at_call 50; refine (HLB.out _).mono ?_; rintro e w1 ⟨rfl, rfl⟩) | (go_at_call 51; refine (HDB.out _).mono ?_; rintro e w1 ⟨rfl, rfl⟩))
          exact ⟨⟨j + 1, by rw [list_size]; omega, rfl, HF.out⟩, by simp only [tokM']; omega⟩
        | false =>
          rw [hlo] at HLB
          cases hdi : dig b with
          | true =>
            rw [hdi] at HDB
            have HF := Lib.hid (show j + 1 + twn wch (s.data.toList.drop (j + 1)) = twn wch s.data.toList by rw [← HN.out, HLJ.out, twn_go (by simp [wch, hdi])]; omega)
            clear hlo hdi
            go_wp2_with (first | (go_at_call 50; refine (HLB.out _).mono ?_; rintro e w1 ⟨rfl, rfl⟩) | (go_at_call 51; refine (HDB.out _).mono ?_; rintro e w1 ⟨rfl, rfl⟩))
            exact ⟨⟨j + 1, by rw [list_size]; omega, rfl, HF.out⟩, by simp only [tokM']; omega⟩
          | false =>
            rw [hdi] at HDB
            obtain rfl : j = N := by rw [HNN.out, ← HN.out]; rw [HLJ.out, twn_stop (by simp [wch, hlo, hdi])]; rfl
            clear hlo hdi
            go_wp2_with (first | (go_at_call 50; refine (HLB.out _).mono ?_; rintro e w1 ⟨rfl, rfl⟩) | (go_at_call 51; refine (HDB.out _).mono ?_; rintro e w1 ⟨rfl, rfl⟩))
            refine bodyPost_ret (v := .tuple #[.agg #[.int .i64 1, .int .i64 0, .string (s.extract 0 j), .int .i64 0], .int .i64 0]) (by simp [results, Tryd.results36, go_sem, *]) rfl ?_
            exact tpost_ok HT.out rfl rfl (extract_take _ _) ((Ext.refl w).alloc _)
      · obtain rfl : j = N := by
          rw [HNN.out, ← HN.out, show j = s.size by omega, drop_end s s.size (by omega)]; rfl
        have hje : ¬ ((j : Int) < (s.size : Int)) := by omega
        go_wp2_with (first | (go_at_call 50; refine (HLL.out _ _).mono ?_; rintro e w1 ⟨rfl, rfl⟩) | (go_at_call 51; refine (HDD.out _ _).mono ?_; rintro e w1 ⟨rfl, rfl⟩))
        refine bodyPost_ret (v := .tuple #[.agg #[.int .i64 1, .int .i64 0, .string (s.extract 0 j), .int .i64 0], .int .i64 0]) (by simp [results, Tryd.results36, go_sem, *]) rfl ?_
        exact tpost_ok HT.out rfl rfl (extract_take _ _) ((Ext.refl w).alloc _)
set_option maxHeartbeats 4000000 in
set_option maxRecDepth 100000 in
theorem rtok_numA (s : ByteArray) (w : World) (hs : s.size ≤ 281474976710656) (h0 : 0 < s.size) (hlo : low (s[0]'h0) = false) (hdi : dig (s[0]'h0) = true) (hA : 1 < twn dig s.data.toList ∧ s[0]'h0 = 48) : Calls Tryd.prog 36 #[.string s] w (TPost (numT s.data.toList) s w) := by
  have hl := get_list s 0 h0
  rw [List.drop_zero] at hl
  obtain ⟨c, hc⟩ : ∃ c : UInt8, c = s[0]'h0 := ⟨_, rfl⟩
  rw [← hc] at hlo hdi hl hA
  have hgt : ∀ h : 0 < s.size, s[0]'h = c := fun h => hc.symm
  clear hc
  have HC0 := Lib.hid (fun X => rletter_any c X)
  rw [hlo] at HC0
  have HC1 := Lib.hid (fun X => rdigit_any c X)
  rw [hdi] at HC1
  have HDD := Lib.hid (fun b X => rdigit_any b X)
  have hz := twn_size dig s
  have hz1 : 1 ≤ twn dig s.data.toList := by rw [hl, twn_go hdi]; omega
  have HL := Lib.hid hl
  clear hlo hdi hl
  have hex : (s.extract 0 (twn dig s.data.toList)).data.toList = s.data.toList.takeWhile dig := by rw [extract_take, take_twn]
  have hrn := fun X => rnum_any (s.extract 0 (twn dig s.data.toList)) X (by rw [ByteArray.size_extract]; omega) (by rw [hex]; exact tw_all dig _)
  rw [hex] at hrn
  have hnt : numT s.data.toList = if 1 < twn dig s.data.toList ∧ c = 48 then .err 20 else if 2147483647 < dval 0 (s.data.toList.takeWhile dig) then .err 5 else .ok 2 (twn dig s.data.toList) (dval 0 (s.data.toList.takeWhile dig)) := by
    rw [numT, HL.out, List.head?_cons, ← HL.out]; simp only [Option.some.injEq]
  clear hex
  obtain ⟨V, hV⟩ : ∃ V, V = dval 0 (s.data.toList.takeWhile dig) := ⟨_, rfl⟩
  obtain ⟨N, hN⟩ : ∃ N, N = twn dig s.data.toList := ⟨_, rfl⟩
  rw [← hV] at hrn hnt
  rw [← hN] at hrn hnt hz hz1
  try rw [← hN] at hA
  try rw [← hV] at hm
  have HNN := Lib.hid hN
  have HRN := Lib.hid hrn
  have HNT := Lib.hid hnt
  clear hN hrn hV hnt
  have HT := Lib.hid (show numT s.data.toList = .err 20 by rw [HNT.out, if_pos hA])
  obtain ⟨h1, h48⟩ := hA
  have g1 : (1 : Int) < (N : Int) := by omega
  have g48 : ((c.toNat : Int) == 48) = true := by rw [h48]; rfl
  clear h48
  go_enter Tryd.func36, Tryd.ntmps36
  go_wp2_with (first | (go_at_call 50; refine (HC0.out _).mono ?_; rintro e w1 ⟨rfl, rfl⟩) | (go_at_call 51; refine (HC1.out _).mono ?_; rintro e w1 ⟨rfl, rfl⟩))
  go_loop [4] (fun n => HwRel dig s.data.toList n) (fun n => tokM' s.size n)
  case atStart => exact ⟨0, by omega, rfl, by rw [List.drop_zero, Nat.zero_add]⟩
  case round =>
    obtain ⟨j, hj, rfl, hn⟩ := hrel
    have HN := Lib.hid hn
    rw [list_size] at hj
    clear hn
    by_cases hjl : j < s.size
    · have hlj := get_list s j hjl
      obtain ⟨b, hb⟩ : ∃ b : UInt8, b = s[j]'hjl := ⟨_, rfl⟩
      rw [← hb] at hlj
      have hgj : ∀ h : j < s.size, s[j]'h = b := fun h => hb.symm
      have HLJ := Lib.hid hlj
      clear hlj hb
      have HDB := Lib.hid (HDD.out b)
      cases hdi : dig b with
      | true =>
        rw [hdi] at HDB
        have HF := Lib.hid (show j + 1 + twn dig (s.data.toList.drop (j + 1)) = twn dig s.data.toList by rw [← HN.out, HLJ.out, twn_go hdi]; omega)
        clear hdi
        go_wp2_with (first | (go_at_call 51; refine (HDB.out _).mono ?_; rintro e w1 ⟨rfl, rfl⟩))
        exact ⟨⟨j + 1, by rw [list_size]; omega, rfl, HF.out⟩, by simp only [tokM']; omega⟩
      | false =>
        rw [hdi] at HDB
        obtain rfl : j = N := by rw [HNN.out, ← HN.out]; rw [HLJ.out, twn_stop hdi]; rfl
        clear hdi
        go_wp2_with (first | (go_at_call 51; refine (HDB.out _).mono ?_; rintro e w1 ⟨rfl, rfl⟩) | (go_at_call 52; refine (HRN.out _).mono ?_; rintro e w1 ⟨rfl, rfl⟩))
        refine bodyPost_ret (v := .tuple #[.agg #[.int .i64 0, .int .i64 0, .string ⟨#[]⟩, .int .i64 0], .int .i64 20]) (by simp [results, Tryd.results36, go_sem, *]) rfl ?_
        exact tpost_err HT.out rfl ((Ext.refl w).alloc _)
    · obtain rfl : j = N := by
        rw [HNN.out, ← HN.out, show j = s.size by omega, drop_end s s.size (by omega)]; rfl
      have hje : ¬ ((j : Int) < (s.size : Int)) := by omega
      go_wp2_with (first | (go_at_call 52; refine (HRN.out _).mono ?_; rintro e w1 ⟨rfl, rfl⟩))
      refine bodyPost_ret (v := .tuple #[.agg #[.int .i64 0, .int .i64 0, .string ⟨#[]⟩, .int .i64 0], .int .i64 20]) (by simp [results, Tryd.results36, go_sem, *]) rfl ?_
      exact tpost_err HT.out rfl ((Ext.refl w).alloc _)
set_option maxHeartbeats 4000000 in
set_option maxRecDepth 100000 in
theorem rtok_numB1 (s : ByteArray) (w : World) (hs : s.size ≤ 281474976710656) (h0 : 0 < s.size) (hlo : low (s[0]'h0) = false) (hdi : dig (s[0]'h0) = true) (hA : ¬ 1 < twn dig s.data.toList ∧ s[0]'h0 = s[0]'h0) (hm : 2147483647 < dval 0 (s.data.toList.takeWhile dig)) : Calls Tryd.prog 36 #[.string s] w (TPost (numT s.data.toList) s w) := by
  have hl := get_list s 0 h0
  rw [List.drop_zero] at hl
  obtain ⟨c, hc⟩ : ∃ c : UInt8, c = s[0]'h0 := ⟨_, rfl⟩
  rw [← hc] at hlo hdi hl hA
  have hgt : ∀ h : 0 < s.size, s[0]'h = c := fun h => hc.symm
  clear hc
  have HC0 := Lib.hid (fun X => rletter_any c X)
  rw [hlo] at HC0
  have HC1 := Lib.hid (fun X => rdigit_any c X)
  rw [hdi] at HC1
  have HDD := Lib.hid (fun b X => rdigit_any b X)
  have hz := twn_size dig s
  have hz1 : 1 ≤ twn dig s.data.toList := by rw [hl, twn_go hdi]; omega
  have HL := Lib.hid hl
  clear hlo hdi hl
  have hex : (s.extract 0 (twn dig s.data.toList)).data.toList = s.data.toList.takeWhile dig := by rw [extract_take, take_twn]
  have hrn := fun X => rnum_any (s.extract 0 (twn dig s.data.toList)) X (by rw [ByteArray.size_extract]; omega) (by rw [hex]; exact tw_all dig _)
  rw [hex] at hrn
  have hnt : numT s.data.toList = if 1 < twn dig s.data.toList ∧ c = 48 then .err 20 else if 2147483647 < dval 0 (s.data.toList.takeWhile dig) then .err 5 else .ok 2 (twn dig s.data.toList) (dval 0 (s.data.toList.takeWhile dig)) := by
    rw [numT, HL.out, List.head?_cons, ← HL.out]; simp only [Option.some.injEq]
  clear hex
  obtain ⟨V, hV⟩ : ∃ V, V = dval 0 (s.data.toList.takeWhile dig) := ⟨_, rfl⟩
  obtain ⟨N, hN⟩ : ∃ N, N = twn dig s.data.toList := ⟨_, rfl⟩
  rw [← hV] at hrn hnt
  rw [← hN] at hrn hnt hz hz1
  try rw [← hN] at hA
  try rw [← hV] at hm
  have HNN := Lib.hid hN
  have HRN := Lib.hid hrn
  have HNT := Lib.hid hnt
  clear hN hrn hV hnt
  have g1 : ¬ (1 : Int) < (N : Int) := by omega
  have hAA : ¬ (1 < N ∧ c = 48) := fun h => hA.1 h.1
  have HT := Lib.hid (show numT s.data.toList = .err 5 by rw [HNT.out, if_neg hAA, if_pos hm])
  have hm' : (2147483647 : Int) < (cap31 V : Nat) := by unfold cap31; omega
  clear hA hAA
  go_enter Tryd.func36, Tryd.ntmps36
  go_wp2_with (first | (go_at_call 50; refine (HC0.out _).mono ?_; rintro e w1 ⟨rfl, rfl⟩) | (go_at_call 51; refine (HC1.out _).mono ?_; rintro e w1 ⟨rfl, rfl⟩))
  go_loop [4] (fun n => HwRel dig s.data.toList n) (fun n => tokM' s.size n)
  case atStart => exact ⟨0, by omega, rfl, by rw [List.drop_zero, Nat.zero_add]⟩
  case round =>
    obtain ⟨j, hj, rfl, hn⟩ := hrel
    have HN := Lib.hid hn
    rw [list_size] at hj
    clear hn
    by_cases hjl : j < s.size
    · have hlj := get_list s j hjl
      obtain ⟨b, hb⟩ : ∃ b : UInt8, b = s[j]'hjl := ⟨_, rfl⟩
      rw [← hb] at hlj
      have hgj : ∀ h : j < s.size, s[j]'h = b := fun h => hb.symm
      have HLJ := Lib.hid hlj
      clear hlj hb
      have HDB := Lib.hid (HDD.out b)
      cases hdi : dig b with
      | true =>
        rw [hdi] at HDB
        have HF := Lib.hid (show j + 1 + twn dig (s.data.toList.drop (j + 1)) = twn dig s.data.toList by rw [← HN.out, HLJ.out, twn_go hdi]; omega)
        clear hdi
        go_wp2_with (first | (go_at_call 51; refine (HDB.out _).mono ?_; rintro e w1 ⟨rfl, rfl⟩))
        exact ⟨⟨j + 1, by rw [list_size]; omega, rfl, HF.out⟩, by simp only [tokM']; omega⟩
      | false =>
        rw [hdi] at HDB
        obtain rfl : j = N := by rw [HNN.out, ← HN.out]; rw [HLJ.out, twn_stop hdi]; rfl
        clear hdi
        go_wp2_with (first | (go_at_call 51; refine (HDB.out _).mono ?_; rintro e w1 ⟨rfl, rfl⟩) | (go_at_call 52; refine (HRN.out _).mono ?_; rintro e w1 ⟨rfl, rfl⟩))
        refine bodyPost_ret (v := .tuple #[.agg #[.int .i64 0, .int .i64 0, .string ⟨#[]⟩, .int .i64 0], .int .i64 5]) (by simp [results, Tryd.results36, go_sem, *]) rfl ?_
        exact tpost_err HT.out rfl ((Ext.refl w).alloc _)
    · obtain rfl : j = N := by
        rw [HNN.out, ← HN.out, show j = s.size by omega, drop_end s s.size (by omega)]; rfl
      have hje : ¬ ((j : Int) < (s.size : Int)) := by omega
      go_wp2_with (first | (go_at_call 52; refine (HRN.out _).mono ?_; rintro e w1 ⟨rfl, rfl⟩))
      refine bodyPost_ret (v := .tuple #[.agg #[.int .i64 0, .int .i64 0, .string ⟨#[]⟩, .int .i64 0], .int .i64 5]) (by simp [results, Tryd.results36, go_sem, *]) rfl ?_
      exact tpost_err HT.out rfl ((Ext.refl w).alloc _)
set_option maxHeartbeats 4000000 in
set_option maxRecDepth 100000 in
theorem rtok_numB2 (s : ByteArray) (w : World) (hs : s.size ≤ 281474976710656) (h0 : 0 < s.size) (hlo : low (s[0]'h0) = false) (hdi : dig (s[0]'h0) = true) (hA : ¬ 1 < twn dig s.data.toList ∧ s[0]'h0 = s[0]'h0) (hm : ¬ 2147483647 < dval 0 (s.data.toList.takeWhile dig)) : Calls Tryd.prog 36 #[.string s] w (TPost (numT s.data.toList) s w) := by
  have hl := get_list s 0 h0
  rw [List.drop_zero] at hl
  obtain ⟨c, hc⟩ : ∃ c : UInt8, c = s[0]'h0 := ⟨_, rfl⟩
  rw [← hc] at hlo hdi hl hA
  have hgt : ∀ h : 0 < s.size, s[0]'h = c := fun h => hc.symm
  clear hc
  have HC0 := Lib.hid (fun X => rletter_any c X)
  rw [hlo] at HC0
  have HC1 := Lib.hid (fun X => rdigit_any c X)
  rw [hdi] at HC1
  have HDD := Lib.hid (fun b X => rdigit_any b X)
  have hz := twn_size dig s
  have hz1 : 1 ≤ twn dig s.data.toList := by rw [hl, twn_go hdi]; omega
  have HL := Lib.hid hl
  clear hlo hdi hl
  have hex : (s.extract 0 (twn dig s.data.toList)).data.toList = s.data.toList.takeWhile dig := by rw [extract_take, take_twn]
  have hrn := fun X => rnum_any (s.extract 0 (twn dig s.data.toList)) X (by rw [ByteArray.size_extract]; omega) (by rw [hex]; exact tw_all dig _)
  rw [hex] at hrn
  have hnt : numT s.data.toList = if 1 < twn dig s.data.toList ∧ c = 48 then .err 20 else if 2147483647 < dval 0 (s.data.toList.takeWhile dig) then .err 5 else .ok 2 (twn dig s.data.toList) (dval 0 (s.data.toList.takeWhile dig)) := by
    rw [numT, HL.out, List.head?_cons, ← HL.out]; simp only [Option.some.injEq]
  clear hex
  obtain ⟨V, hV⟩ : ∃ V, V = dval 0 (s.data.toList.takeWhile dig) := ⟨_, rfl⟩
  obtain ⟨N, hN⟩ : ∃ N, N = twn dig s.data.toList := ⟨_, rfl⟩
  rw [← hV] at hrn hnt
  rw [← hN] at hrn hnt hz hz1
  try rw [← hN] at hA
  try rw [← hV] at hm
  have HNN := Lib.hid hN
  have HRN := Lib.hid hrn
  have HNT := Lib.hid hnt
  clear hN hrn hV hnt
  have g1 : ¬ (1 : Int) < (N : Int) := by omega
  have hAA : ¬ (1 < N ∧ c = 48) := fun h => hA.1 h.1
  have HT := Lib.hid (show numT s.data.toList = .ok 2 N V by rw [HNT.out, if_neg hAA, if_neg hm])
  have hcv : cap31 V = V := by unfold cap31; omega
  rw [hcv] at HRN
  have hm' : ¬ (2147483647 : Int) < (V : Int) := by omega
  clear hcv hA hAA
  go_enter Tryd.func36, Tryd.ntmps36
  go_wp2_with (first | (go_at_call 50; refine (HC0.out _).mono ?_; rintro e w1 ⟨rfl, rfl⟩) | (go_at_call 51; refine (HC1.out _).mono ?_; rintro e w1 ⟨rfl, rfl⟩))
  go_loop [4] (fun n => HwRel dig s.data.toList n) (fun n => tokM' s.size n)
  case atStart => exact ⟨0, by omega, rfl, by rw [List.drop_zero, Nat.zero_add]⟩
  case round =>
    obtain ⟨j, hj, rfl, hn⟩ := hrel
    have HN := Lib.hid hn
    rw [list_size] at hj
    clear hn
    by_cases hjl : j < s.size
    · have hlj := get_list s j hjl
      obtain ⟨b, hb⟩ : ∃ b : UInt8, b = s[j]'hjl := ⟨_, rfl⟩
      rw [← hb] at hlj
      have hgj : ∀ h : j < s.size, s[j]'h = b := fun h => hb.symm
      have HLJ := Lib.hid hlj
      clear hlj hb
      have HDB := Lib.hid (HDD.out b)
      cases hdi : dig b with
      | true =>
        rw [hdi] at HDB
        have HF := Lib.hid (show j + 1 + twn dig (s.data.toList.drop (j + 1)) = twn dig s.data.toList by rw [← HN.out, HLJ.out, twn_go hdi]; omega)
        clear hdi
        go_wp2_with (first | (go_at_call 51; refine (HDB.out _).mono ?_; rintro e w1 ⟨rfl, rfl⟩))
        exact ⟨⟨j + 1, by rw [list_size]; omega, rfl, HF.out⟩, by simp only [tokM']; omega⟩
      | false =>
        rw [hdi] at HDB
        obtain rfl : j = N := by rw [HNN.out, ← HN.out]; rw [HLJ.out, twn_stop hdi]; rfl
        clear hdi
        go_upto_region 15 with (first | (go_at_call 51; refine (HDB.out _).mono ?_; rintro e w1 ⟨rfl, rfl⟩) | (go_at_call 52; refine (HRN.out _).mono ?_; rintro e w1 ⟨rfl, rfl⟩))
        have hbx := TBox.new w 0 0 0 ⟨#[]⟩ 36
        have hx0 : Ext w (w.alloc (.cells #[.int .i64 0, .int .i64 0, .string ⟨#[]⟩, .int .i64 0] 36)) := (Ext.refl w).alloc _
        obtain ⟨q0, q1, q2, q3, q4, q5, q6, q7, q8⟩ := hbx
        generalize w.alloc (.cells #[.int .i64 0, .int .i64 0, .string ⟨#[]⟩, .int .i64 0] 36) = w2 at *
        go_region_held3 (fun W => W.frozen? ⟨w.heap.size, 0, none⟩ = false) (go_keep) (first | (go_at_call 52; refine (HRN.out _).mono ?_; rintro e w1 ⟨rfl, rfl⟩))
        go_wp2
        refine bodyPost_ret (v := .tuple #[.agg #[.int .i64 2, .int .i64 0, .string (s.extract 0 j), .int .i64 V], .int .i64 0]) (by simp [results, Tryd.results36, go_sem, *]) rfl ?_
        exact tpost_ok HT.out rfl rfl (extract_take _ _) ((hx0.store4 (Nat.le_refl _) _ _ _ _).drew)
    · obtain rfl : j = N := by
        rw [HNN.out, ← HN.out, show j = s.size by omega, drop_end s s.size (by omega)]; rfl
      have hje : ¬ ((j : Int) < (s.size : Int)) := by omega
      go_upto_region 15 with (first | (go_at_call 52; refine (HRN.out _).mono ?_; rintro e w1 ⟨rfl, rfl⟩))
      have hbx := TBox.new w 0 0 0 ⟨#[]⟩ 36
      have hx0 : Ext w (w.alloc (.cells #[.int .i64 0, .int .i64 0, .string ⟨#[]⟩, .int .i64 0] 36)) := (Ext.refl w).alloc _
      obtain ⟨q0, q1, q2, q3, q4, q5, q6, q7, q8⟩ := hbx
      generalize w.alloc (.cells #[.int .i64 0, .int .i64 0, .string ⟨#[]⟩, .int .i64 0] 36) = w2 at *
      go_region_held3 (fun W => W.frozen? ⟨w.heap.size, 0, none⟩ = false) (go_keep) (first | (go_at_call 52; refine (HRN.out _).mono ?_; rintro e w1 ⟨rfl, rfl⟩))
      go_wp2
      refine bodyPost_ret (v := .tuple #[.agg #[.int .i64 2, .int .i64 0, .string (s.extract 0 j), .int .i64 V], .int .i64 0]) (by simp [results, Tryd.results36, go_sem, *]) rfl ?_
      exact tpost_ok HT.out rfl rfl (extract_take _ _) ((hx0.store4 (Nat.le_refl _) _ _ _ _).drew)
set_option maxHeartbeats 4000000 in
set_option maxRecDepth 100000 in
theorem rtok_numC1 (s : ByteArray) (w : World) (hs : s.size ≤ 281474976710656) (h0 : 0 < s.size) (hlo : low (s[0]'h0) = false) (hdi : dig (s[0]'h0) = true) (hA : 1 < twn dig s.data.toList ∧ s[0]'h0 ≠ 48) (hm : 2147483647 < dval 0 (s.data.toList.takeWhile dig)) : Calls Tryd.prog 36 #[.string s] w (TPost (numT s.data.toList) s w) := by
  have hl := get_list s 0 h0
  rw [List.drop_zero] at hl
  obtain ⟨c, hc⟩ : ∃ c : UInt8, c = s[0]'h0 := ⟨_, rfl⟩
  rw [← hc] at hlo hdi hl hA
  have hgt : ∀ h : 0 < s.size, s[0]'h = c := fun h => hc.symm
  clear hc
  have HC0 := Lib.hid (fun X => rletter_any c X)
  rw [hlo] at HC0
  have HC1 := Lib.hid (fun X => rdigit_any c X)
  rw [hdi] at HC1
  have HDD := Lib.hid (fun b X => rdigit_any b X)
  have hz := twn_size dig s
  have hz1 : 1 ≤ twn dig s.data.toList := by rw [hl, twn_go hdi]; omega
  have HL := Lib.hid hl
  clear hlo hdi hl
  have hex : (s.extract 0 (twn dig s.data.toList)).data.toList = s.data.toList.takeWhile dig := by rw [extract_take, take_twn]
  have hrn := fun X => rnum_any (s.extract 0 (twn dig s.data.toList)) X (by rw [ByteArray.size_extract]; omega) (by rw [hex]; exact tw_all dig _)
  rw [hex] at hrn
  have hnt : numT s.data.toList = if 1 < twn dig s.data.toList ∧ c = 48 then .err 20 else if 2147483647 < dval 0 (s.data.toList.takeWhile dig) then .err 5 else .ok 2 (twn dig s.data.toList) (dval 0 (s.data.toList.takeWhile dig)) := by
    rw [numT, HL.out, List.head?_cons, ← HL.out]; simp only [Option.some.injEq]
  clear hex
  obtain ⟨V, hV⟩ : ∃ V, V = dval 0 (s.data.toList.takeWhile dig) := ⟨_, rfl⟩
  obtain ⟨N, hN⟩ : ∃ N, N = twn dig s.data.toList := ⟨_, rfl⟩
  rw [← hV] at hrn hnt
  rw [← hN] at hrn hnt hz hz1
  try rw [← hN] at hA
  try rw [← hV] at hm
  have HNN := Lib.hid hN
  have HRN := Lib.hid hrn
  have HNT := Lib.hid hnt
  clear hN hrn hV hnt
  have g1 : (1 : Int) < (N : Int) := by omega
  have hAA : ¬ (1 < N ∧ c = 48) := fun h => hA.2 h.2
  have g48 : ((c.toNat : Int) == 48) = false := by rw [beq_eq_false_iff_ne]; intro e; exact hA.2 (UInt8.toNat_inj.1 (by have : (48 : UInt8).toNat = 48 := rfl; omega))
  have HT := Lib.hid (show numT s.data.toList = .err 5 by rw [HNT.out, if_neg hAA, if_pos hm])
  have hm' : (2147483647 : Int) < (cap31 V : Nat) := by unfold cap31; omega
  clear hA hAA
  go_enter Tryd.func36, Tryd.ntmps36
  go_wp2_with (first | (go_at_call 50; refine (HC0.out _).mono ?_; rintro e w1 ⟨rfl, rfl⟩) | (go_at_call 51; refine (HC1.out _).mono ?_; rintro e w1 ⟨rfl, rfl⟩))
  go_loop [4] (fun n => HwRel dig s.data.toList n) (fun n => tokM' s.size n)
  case atStart => exact ⟨0, by omega, rfl, by rw [List.drop_zero, Nat.zero_add]⟩
  case round =>
    obtain ⟨j, hj, rfl, hn⟩ := hrel
    have HN := Lib.hid hn
    rw [list_size] at hj
    clear hn
    by_cases hjl : j < s.size
    · have hlj := get_list s j hjl
      obtain ⟨b, hb⟩ : ∃ b : UInt8, b = s[j]'hjl := ⟨_, rfl⟩
      rw [← hb] at hlj
      have hgj : ∀ h : j < s.size, s[j]'h = b := fun h => hb.symm
      have HLJ := Lib.hid hlj
      clear hlj hb
      have HDB := Lib.hid (HDD.out b)
      cases hdi : dig b with
      | true =>
        rw [hdi] at HDB
        have HF := Lib.hid (show j + 1 + twn dig (s.data.toList.drop (j + 1)) = twn dig s.data.toList by rw [← HN.out, HLJ.out, twn_go hdi]; omega)
        clear hdi
        go_wp2_with (first | (go_at_call 51; refine (HDB.out _).mono ?_; rintro e w1 ⟨rfl, rfl⟩))
        exact ⟨⟨j + 1, by rw [list_size]; omega, rfl, HF.out⟩, by simp only [tokM']; omega⟩
      | false =>
        rw [hdi] at HDB
        obtain rfl : j = N := by rw [HNN.out, ← HN.out]; rw [HLJ.out, twn_stop hdi]; rfl
        clear hdi
        go_wp2_with (first | (go_at_call 51; refine (HDB.out _).mono ?_; rintro e w1 ⟨rfl, rfl⟩) | (go_at_call 52; refine (HRN.out _).mono ?_; rintro e w1 ⟨rfl, rfl⟩))
        refine bodyPost_ret (v := .tuple #[.agg #[.int .i64 0, .int .i64 0, .string ⟨#[]⟩, .int .i64 0], .int .i64 5]) (by simp [results, Tryd.results36, go_sem, *]) rfl ?_
        exact tpost_err HT.out rfl ((Ext.refl w).alloc _)
    · obtain rfl : j = N := by
        rw [HNN.out, ← HN.out, show j = s.size by omega, drop_end s s.size (by omega)]; rfl
      have hje : ¬ ((j : Int) < (s.size : Int)) := by omega
      go_wp2_with (first | (go_at_call 52; refine (HRN.out _).mono ?_; rintro e w1 ⟨rfl, rfl⟩))
      refine bodyPost_ret (v := .tuple #[.agg #[.int .i64 0, .int .i64 0, .string ⟨#[]⟩, .int .i64 0], .int .i64 5]) (by simp [results, Tryd.results36, go_sem, *]) rfl ?_
      exact tpost_err HT.out rfl ((Ext.refl w).alloc _)
set_option maxHeartbeats 4000000 in
set_option maxRecDepth 100000 in
theorem rtok_numC2 (s : ByteArray) (w : World) (hs : s.size ≤ 281474976710656) (h0 : 0 < s.size) (hlo : low (s[0]'h0) = false) (hdi : dig (s[0]'h0) = true) (hA : 1 < twn dig s.data.toList ∧ s[0]'h0 ≠ 48) (hm : ¬ 2147483647 < dval 0 (s.data.toList.takeWhile dig)) : Calls Tryd.prog 36 #[.string s] w (TPost (numT s.data.toList) s w) := by
  have hl := get_list s 0 h0
  rw [List.drop_zero] at hl
  obtain ⟨c, hc⟩ : ∃ c : UInt8, c = s[0]'h0 := ⟨_, rfl⟩
  rw [← hc] at hlo hdi hl hA
  have hgt : ∀ h : 0 < s.size, s[0]'h = c := fun h => hc.symm
  clear hc
  have HC0 := Lib.hid (fun X => rletter_any c X)
  rw [hlo] at HC0
  have HC1 := Lib.hid (fun X => rdigit_any c X)
  rw [hdi] at HC1
  have HDD := Lib.hid (fun b X => rdigit_any b X)
  have hz := twn_size dig s
  have hz1 : 1 ≤ twn dig s.data.toList := by rw [hl, twn_go hdi]; omega
  have HL := Lib.hid hl
  clear hlo hdi hl
  have hex : (s.extract 0 (twn dig s.data.toList)).data.toList = s.data.toList.takeWhile dig := by rw [extract_take, take_twn]
  have hrn := fun X => rnum_any (s.extract 0 (twn dig s.data.toList)) X (by rw [ByteArray.size_extract]; omega) (by rw [hex]; exact tw_all dig _)
  rw [hex] at hrn
  have hnt : numT s.data.toList = if 1 < twn dig s.data.toList ∧ c = 48 then .err 20 else if 2147483647 < dval 0 (s.data.toList.takeWhile dig) then .err 5 else .ok 2 (twn dig s.data.toList) (dval 0 (s.data.toList.takeWhile dig)) := by
    rw [numT, HL.out, List.head?_cons, ← HL.out]; simp only [Option.some.injEq]
  clear hex
  obtain ⟨V, hV⟩ : ∃ V, V = dval 0 (s.data.toList.takeWhile dig) := ⟨_, rfl⟩
  obtain ⟨N, hN⟩ : ∃ N, N = twn dig s.data.toList := ⟨_, rfl⟩
  rw [← hV] at hrn hnt
  rw [← hN] at hrn hnt hz hz1
  try rw [← hN] at hA
  try rw [← hV] at hm
  have HNN := Lib.hid hN
  have HRN := Lib.hid hrn
  have HNT := Lib.hid hnt
  clear hN hrn hV hnt
  have g1 : (1 : Int) < (N : Int) := by omega
  have hAA : ¬ (1 < N ∧ c = 48) := fun h => hA.2 h.2
  have g48 : ((c.toNat : Int) == 48) = false := by rw [beq_eq_false_iff_ne]; intro e; exact hA.2 (UInt8.toNat_inj.1 (by have : (48 : UInt8).toNat = 48 := rfl; omega))
  have HT := Lib.hid (show numT s.data.toList = .ok 2 N V by rw [HNT.out, if_neg hAA, if_neg hm])
  have hcv : cap31 V = V := by unfold cap31; omega
  rw [hcv] at HRN
  have hm' : ¬ (2147483647 : Int) < (V : Int) := by omega
  clear hcv hA hAA
  go_enter Tryd.func36, Tryd.ntmps36
  go_wp2_with (first | (go_at_call 50; refine (HC0.out _).mono ?_; rintro e w1 ⟨rfl, rfl⟩) | (go_at_call 51; refine (HC1.out _).mono ?_; rintro e w1 ⟨rfl, rfl⟩))
  go_loop [4] (fun n => HwRel dig s.data.toList n) (fun n => tokM' s.size n)
  case atStart => exact ⟨0, by omega, rfl, by rw [List.drop_zero, Nat.zero_add]⟩
  case round =>
    obtain ⟨j, hj, rfl, hn⟩ := hrel
    have HN := Lib.hid hn
    rw [list_size] at hj
    clear hn
    by_cases hjl : j < s.size
    · have hlj := get_list s j hjl
      obtain ⟨b, hb⟩ : ∃ b : UInt8, b = s[j]'hjl := ⟨_, rfl⟩
      rw [← hb] at hlj
      have hgj : ∀ h : j < s.size, s[j]'h = b := fun h => hb.symm
      have HLJ := Lib.hid hlj
      clear hlj hb
      have HDB := Lib.hid (HDD.out b)
      cases hdi : dig b with
      | true =>
        rw [hdi] at HDB
        have HF := Lib.hid (show j + 1 + twn dig (s.data.toList.drop (j + 1)) = twn dig s.data.toList by rw [← HN.out, HLJ.out, twn_go hdi]; omega)
        clear hdi
        go_wp2_with (first | (go_at_call 51; refine (HDB.out _).mono ?_; rintro e w1 ⟨rfl, rfl⟩))
        exact ⟨⟨j + 1, by rw [list_size]; omega, rfl, HF.out⟩, by simp only [tokM']; omega⟩
      | false =>
        rw [hdi] at HDB
        obtain rfl : j = N := by rw [HNN.out, ← HN.out]; rw [HLJ.out, twn_stop hdi]; rfl
        clear hdi
        go_upto_region 15 with (first | (go_at_call 51; refine (HDB.out _).mono ?_; rintro e w1 ⟨rfl, rfl⟩) | (go_at_call 52; refine (HRN.out _).mono ?_; rintro e w1 ⟨rfl, rfl⟩))
        have hbx := TBox.new w 0 0 0 ⟨#[]⟩ 36
        have hx0 : Ext w (w.alloc (.cells #[.int .i64 0, .int .i64 0, .string ⟨#[]⟩, .int .i64 0] 36)) := (Ext.refl w).alloc _
        obtain ⟨q0, q1, q2, q3, q4, q5, q6, q7, q8⟩ := hbx
        generalize w.alloc (.cells #[.int .i64 0, .int .i64 0, .string ⟨#[]⟩, .int .i64 0] 36) = w2 at *
        go_region_held3 (fun W => W.frozen? ⟨w.heap.size, 0, none⟩ = false) (go_keep) (first | (go_at_call 52; refine (HRN.out _).mono ?_; rintro e w1 ⟨rfl, rfl⟩))
        go_wp2
        refine bodyPost_ret (v := .tuple #[.agg #[.int .i64 2, .int .i64 0, .string (s.extract 0 j), .int .i64 V], .int .i64 0]) (by simp [results, Tryd.results36, go_sem, *]) rfl ?_
        exact tpost_ok HT.out rfl rfl (extract_take _ _) ((hx0.store4 (Nat.le_refl _) _ _ _ _).drew)
    · obtain rfl : j = N := by
        rw [HNN.out, ← HN.out, show j = s.size by omega, drop_end s s.size (by omega)]; rfl
      have hje : ¬ ((j : Int) < (s.size : Int)) := by omega
      go_upto_region 15 with (first | (go_at_call 52; refine (HRN.out _).mono ?_; rintro e w1 ⟨rfl, rfl⟩))
      have hbx := TBox.new w 0 0 0 ⟨#[]⟩ 36
      have hx0 : Ext w (w.alloc (.cells #[.int .i64 0, .int .i64 0, .string ⟨#[]⟩, .int .i64 0] 36)) := (Ext.refl w).alloc _
      obtain ⟨q0, q1, q2, q3, q4, q5, q6, q7, q8⟩ := hbx
      generalize w.alloc (.cells #[.int .i64 0, .int .i64 0, .string ⟨#[]⟩, .int .i64 0] 36) = w2 at *
      go_region_held3 (fun W => W.frozen? ⟨w.heap.size, 0, none⟩ = false) (go_keep) (first | (go_at_call 52; refine (HRN.out _).mono ?_; rintro e w1 ⟨rfl, rfl⟩))
      go_wp2
      refine bodyPost_ret (v := .tuple #[.agg #[.int .i64 2, .int .i64 0, .string (s.extract 0 j), .int .i64 V], .int .i64 0]) (by simp [results, Tryd.results36, go_sem, *]) rfl ?_
      exact tpost_ok HT.out rfl rfl (extract_take _ _) ((hx0.store4 (Nat.le_refl _) _ _ _ _).drew)
set_option maxHeartbeats 4000000 in
set_option maxRecDepth 100000 in
theorem rtok_day (s : ByteArray) (w : World) (hs : s.size ≤ 281474976710656) (h0 : 0 < s.size) (hlo : low (s[0]'h0) = false) (hdi : dig (s[0]'h0) = false) (h64 : s[0]'h0 = 64) : Calls Tryd.prog 36 #[.string s] w (TPost (dayT s.data.toList) s w) := by
  have hl := get_list s 0 h0
  rw [List.drop_zero] at hl
  obtain ⟨c, hc⟩ : ∃ c : UInt8, c = s[0]'h0 := ⟨_, rfl⟩
  rw [← hc] at hlo hdi hl h64
  have hgt : ∀ h : 0 < s.size, s[0]'h = c := fun h => hc.symm
  clear hc
  have HC0 := Lib.hid (fun X => rletter_any c X)
  rw [hlo] at HC0
  have HC1 := Lib.hid (fun X => rdigit_any c X)
  rw [hdi] at HC1
  have HL := Lib.hid hl
  clear hlo hdi hl
  have hh : s.data.toList.head? = some 64 := by rw [HL.out, h64]; rfl
  have g64 : ((c.toNat : Int) == 64) = true := by rw [h64]; rfl
  have HDT := Lib.hid (fun X => rdated_any s X hh hs)
  clear h64 hh
  cases hd : dated s.data.toList with
  | false =>
    have HT := Lib.hid (show dayT s.data.toList = .err 20 by rw [dayT, hd]; rfl)
    rw [hd] at HDT
    clear hd
    go_enter Tryd.func36, Tryd.ntmps36
    go_wp2_with (first | (go_at_call 50; refine (HC0.out _).mono ?_; rintro e w1 ⟨rfl, rfl⟩) | (go_at_call 51; refine (HC1.out _).mono ?_; rintro e w1 ⟨rfl, rfl⟩) | (go_at_call 53; refine (HDT.out _).mono ?_; rintro e w1 ⟨rfl, rfl⟩))
    refine bodyPost_ret (v := .tuple #[.agg #[.int .i64 0, .int .i64 0, .string ⟨#[]⟩, .int .i64 0], .int .i64 20]) (by simp [results, Tryd.results36, go_sem, *]) rfl ?_
    exact tpost_err HT.out rfl ((Ext.refl w).alloc _)
  | true =>
    have hdd := dayP_of s
    have hsz : 11 ≤ s.size := by
      have h := hd
      simp only [dated, Bool.and_eq_true, decide_eq_true_eq] at h
      rw [← list_size]; exact h.1
    have HP := Lib.hid (fun X => rparse_any (s.extract 1 11) X (ten_of hd))
    have hT0 : dayT s.data.toList = (match dayP ((s.data.toList.drop 1).take 10) with | some d => .ok 3 11 d | none => .err 5) := by rw [dayT, if_pos hd]; rfl
    rw [hdd] at hT0
    rw [hd] at HDT
    clear hd hdd
    unfold DayPost chkE at HP
    generalize yOf (s.extract 1 11) = y at *
    generalize mOf (s.extract 1 11) = m at *
    generalize dOf (s.extract 1 11) = d at *
    cases hb : dateB y m d with
    | true =>
      rw [hb] at HP hT0
      have HT := Lib.hid (show dayT s.data.toList = .ok 3 11 (dayNo y m d : Nat) from hT0)
      have HPP := Lib.hid (show ∀ X, Calls Tryd.prog 54 #[.string (s.extract 1 11)] X (fun e X' => e = .returned (.tuple #[.int .i64 (dayNo y m d : Nat), .int .i64 0]) ∧ Ext X X') from HP.out)
      clear hT0 HP hb
      generalize dayNo y m d = N at *
      have hbx := TBox.new w 0 0 0 ⟨#[]⟩ 36
      have hx0 : Ext w (w.alloc (.cells #[.int .i64 0, .int .i64 0, .string ⟨#[]⟩, .int .i64 0] 36)) := (Ext.refl w).alloc _
      go_enter Tryd.func36, Tryd.ntmps36
      go_wp2_with (first | (go_at_call 50; refine (HC0.out _).mono ?_; rintro e w1 ⟨rfl, rfl⟩) | (go_at_call 51; refine (HC1.out _).mono ?_; rintro e w1 ⟨rfl, rfl⟩) | (go_at_call 53; refine (HDT.out _).mono ?_; rintro e w1 ⟨rfl, rfl⟩) | (go_at_call 54; refine (HPP.out _).mono ?_; rintro e w2 ⟨rfl, hx⟩; have hx1 := hx0.trans hx; obtain ⟨q0, q1, q2, q3, q4, q5, q6, q7, q8⟩ := hbx.ext hx))
      refine bodyPost_ret (v := .tuple #[.agg #[.int .i64 3, .int .i64 0, .string (s.extract 0 11), .int .i64 N], .int .i64 0]) (by simp [results, Tryd.results36, go_sem, *]) rfl ?_
      exact tpost_ok HT.out rfl rfl (extract_take _ _) (hx1.store4 (Nat.le_refl _) _ _ _ _)
    | false =>
      rw [hb] at HP hT0
      have HT := Lib.hid (show dayT s.data.toList = .err 5 from hT0)
      have HPP := Lib.hid (show ∀ X, Calls Tryd.prog 54 #[.string (s.extract 1 11)] X (fun e X' => e = .returned (.tuple #[.int .i64 (0 : Nat), .int .i64 5]) ∧ Ext X X') from HP.out)
      clear hT0 HP hb
      have hbx := TBox.new w 0 0 0 ⟨#[]⟩ 36
      have hx0 : Ext w (w.alloc (.cells #[.int .i64 0, .int .i64 0, .string ⟨#[]⟩, .int .i64 0] 36)) := (Ext.refl w).alloc _
      go_enter Tryd.func36, Tryd.ntmps36
      go_wp2_with (first | (go_at_call 50; refine (HC0.out _).mono ?_; rintro e w1 ⟨rfl, rfl⟩) | (go_at_call 51; refine (HC1.out _).mono ?_; rintro e w1 ⟨rfl, rfl⟩) | (go_at_call 53; refine (HDT.out _).mono ?_; rintro e w1 ⟨rfl, rfl⟩) | (go_at_call 54; refine (HPP.out _).mono ?_; rintro e w2 ⟨rfl, hx⟩; have hx1 := hx0.trans hx; obtain ⟨q0, q1, q2, q3, q4, q5, q6, q7, q8⟩ := hbx.ext hx))
      refine bodyPost_ret (v := .tuple #[.agg #[.int .i64 0, .int .i64 0, .string ⟨#[]⟩, .int .i64 0], .int .i64 5]) (by simp [results, Tryd.results36, go_sem, *]) rfl ?_
      exact tpost_err HT.out rfl (hx1.store4 (Nat.le_refl _) _ _ _ _)
set_option maxHeartbeats 4000000 in
set_option maxRecDepth 100000 in
theorem rtok_sym (s : ByteArray) (w : World) (hs : s.size ≤ 281474976710656) (h0 : 0 < s.size) (hlo : low (s[0]'h0) = false) (hdi : dig (s[0]'h0) = false) (h64 : s[0]'h0 ≠ 64) : Calls Tryd.prog 36 #[.string s] w (TPost (symT s.data.toList) s w) := by
  have hl := get_list s 0 h0
  rw [List.drop_zero] at hl
  obtain ⟨c, hc⟩ : ∃ c : UInt8, c = s[0]'h0 := ⟨_, rfl⟩
  rw [← hc] at hlo hdi hl h64
  have hgt : ∀ h : 0 < s.size, s[0]'h = c := fun h => hc.symm
  clear hc
  have HC0 := Lib.hid (fun X => rletter_any c X)
  rw [hlo] at HC0
  have HC1 := Lib.hid (fun X => rdigit_any c X)
  rw [hdi] at HC1
  have HL := Lib.hid hl
  clear hlo hdi hl
  have g64 : ((c.toNat : Int) == 64) = false := by
    rw [beq_eq_false_iff_ne]; intro e; exact h64 (UInt8.toNat_inj.1 (by have : (64 : UInt8).toNat = 64 := rfl; omega))
  have HSY := Lib.hid (fun X => rsym_any s X hs h0)
  have hle : symN s.data.toList ≤ s.size := by
    rw [← list_size]
    rw [HL.out, symN_cons]
    split
    · rename_i h
      cases r0 : s.data.toList.drop (0 + 1) with
      | nil => rw [r0] at h; simp at h
      | cons => simp
    · split <;> simp
  obtain ⟨N, hN⟩ : ∃ N, N = symN s.data.toList := ⟨_, rfl⟩
  have hT0 : symT s.data.toList = if N = 0 then .err 20 else .ok 4 N 0 := by rw [symT, ← hN]
  rw [← hN] at HSY hle
  clear hN h64
  have hbx := TBox.new w 0 0 0 ⟨#[]⟩ 36
  have hx0 : Ext w (w.alloc (.cells #[.int .i64 0, .int .i64 0, .string ⟨#[]⟩, .int .i64 0] 36)) := (Ext.refl w).alloc _
  by_cases hn : N = 0
  · have HT := Lib.hid (show symT s.data.toList = .err 20 by rw [hT0, if_pos hn])
    have gn : ((N : Int) == 0) = true := by rw [beq_iff_eq]; omega
    clear hT0 hn
    go_enter Tryd.func36, Tryd.ntmps36
    go_wp2_with (first | (go_at_call 50; refine (HC0.out _).mono ?_; rintro e w1 ⟨rfl, rfl⟩) | (go_at_call 51; refine (HC1.out _).mono ?_; rintro e w1 ⟨rfl, rfl⟩) | (go_at_call 55; refine (HSY.out _).mono ?_; rintro e w2 ⟨rfl, hx⟩; have hx1 := hx0.trans hx; obtain ⟨q0, q1, q2, q3, q4, q5, q6, q7, q8⟩ := hbx.ext hx))
    refine bodyPost_ret (v := .tuple #[.agg #[.int .i64 0, .int .i64 0, .string ⟨#[]⟩, .int .i64 0], .int .i64 20]) (by simp [results, Tryd.results36, go_sem, *]) rfl ?_
    exact tpost_err HT.out rfl (hx1.store4 (Nat.le_refl _) _ _ _ _)
  · have HT := Lib.hid (show symT s.data.toList = .ok 4 N 0 by rw [hT0, if_neg hn])
    have gn : ((N : Int) == 0) = false := by rw [beq_eq_false_iff_ne]; omega
    clear hT0 hn
    go_enter Tryd.func36, Tryd.ntmps36
    go_wp2_with (first | (go_at_call 50; refine (HC0.out _).mono ?_; rintro e w1 ⟨rfl, rfl⟩) | (go_at_call 51; refine (HC1.out _).mono ?_; rintro e w1 ⟨rfl, rfl⟩) | (go_at_call 55; refine (HSY.out _).mono ?_; rintro e w2 ⟨rfl, hx⟩; have hx1 := hx0.trans hx; obtain ⟨q0, q1, q2, q3, q4, q5, q6, q7, q8⟩ := hbx.ext hx))
    refine bodyPost_ret (v := .tuple #[.agg #[.int .i64 4, .int .i64 0, .string (s.extract 0 N), .int .i64 0], .int .i64 0]) (by simp [results, Tryd.results36, go_sem, *]) rfl ?_
    exact tpost_ok HT.out rfl rfl (extract_take _ _) (hx1.store4 (Nat.le_refl _) _ _ _ _)
theorem rtok_any (s : ByteArray) (w : World) (hs : s.size ≤ 281474976710656) (h0 : 0 < s.size) : Calls Tryd.prog 36 #[.string s] w (TPost (tok1 s.data.toList) s w) := by
  have hl := get_list s 0 h0
  rw [List.drop_zero] at hl
  cases hlo : low (s[0]'h0) with
  | true => rw [hl, tok1_word hlo, ← hl]; exact rtok_word s w hs h0 hlo
  | false =>
    cases hdi : dig (s[0]'h0) with
    | true =>
      rw [hl, tok1_num hlo hdi, ← hl]
      by_cases h1 : 1 < twn dig s.data.toList
      · by_cases h48 : s[0]'h0 = 48
        · exact rtok_numA s w hs h0 hlo hdi ⟨h1, h48⟩
        · by_cases hm : 2147483647 < dval 0 (s.data.toList.takeWhile dig)
          · exact rtok_numC1 s w hs h0 hlo hdi ⟨h1, h48⟩ hm
          · exact rtok_numC2 s w hs h0 hlo hdi ⟨h1, h48⟩ hm
      · by_cases hm : 2147483647 < dval 0 (s.data.toList.takeWhile dig)
        · exact rtok_numB1 s w hs h0 hlo hdi ⟨h1, rfl⟩ hm
        · exact rtok_numB2 s w hs h0 hlo hdi ⟨h1, rfl⟩ hm
    | false =>
      by_cases h64 : s[0]'h0 = 64
      · rw [hl, tok1_day hlo hdi h64, ← hl]; exact rtok_day s w hs h0 hlo hdi h64
      · rw [hl, tok1_sym hlo hdi h64, ← hl]; exact rtok_sym s w hs h0 hlo hdi h64
end Go.Proofs.YtbmcplnfamgpcaaDoor
