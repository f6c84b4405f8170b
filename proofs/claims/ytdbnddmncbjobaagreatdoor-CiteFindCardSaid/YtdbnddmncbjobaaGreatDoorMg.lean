/- The reference's in, Glyph, Valid, Width: walked. -/
import Derived.Test.YtdbnddmncbjobaaGreatDoorMc
import Derived.Test.YtdbnddmncbjobaaGreatDoorMe
import Derived.RangeFuncNested
import Derived.RangeFuncBound
import Derived.RangeFuncCalls
import Derived.RangeFuncLeaves
import Derived.Test.YtdbnddmncbjobaaGreatDoorMa
import Derived.TacticsInMore
import Derived.Shelf.Abstract
import Derived.WalkKit
import Derived.Shelf.RegionOpen
import Derived.OwnWalkIn
import Derived.LoopNIn
import Derived.LoopIn
import Derived.Test.YtdbnddmncbjobaaGreatDoorMd
namespace Go.Proofs.YtdbnddmncbjobaaGreatDoor
open Go Go.RowKit

def RnO (S : ByteArray) (c : UInt8) (b : Bool) (w : World) (s5 : Value) (w' : World) : Prop :=
  ∃ i : Nat, i ≤ S.size ∧ s5 = .int .i64 i ∧ (S.data.toList.drop i).contains c = b ∧ w = w'
theorem ret_b {a b : Bool} (h : a = b) : Ending.returned (.bool a) = .returned (.bool b) := by rw [h]
set_option maxHeartbeats 4000000 in
set_option maxRecDepth 100000 in
theorem rin_any (c : UInt8) (S : ByteArray) (w : World) (hS : S.size ≤ 1000) (b : Bool) (hb : S.data.toList.contains c = b) : Calls Tryz.prog 246 #[.int .u8 c.toNat, .string S] w (fun e w' => e = .returned (.bool b) ∧ w' = w) := by
  have HB := Lib.hid hb
  clear hb
  go_enter Tryz.func246, Tryz.ntmps246
  go_wp2
  go_loopw [5] (fun s5 w' => RnO S c b w s5 w') (fun s5 _ => toM S.size s5)
  case atStart => exact ⟨0, by omega, rfl, HB.out, rfl⟩
  case round =>
    obtain ⟨i, hi, rfl, hr, rfl⟩ := hrel
    have HR := Lib.hid hr
    clear hr
    by_cases hlt : i < S.size
    case neg =>
      obtain rfl : i = S.size := by omega
      have hni : ¬ ((S.size : Int) < (S.size : Int)) := by omega
      have HF := Lib.hid (show b = false by rw [← HR.out, List.drop_of_length_le (by rw [list_size]; omega)]; rfl)
      go_wp2
      go_ret
      exact ⟨ret_b HF.out.symm, rfl⟩
    have hI : (i : Int) < (S.size : Int) := by omega
    obtain ⟨d, hd⟩ : ∃ d, d = S[i]'hlt := ⟨_, rfl⟩
    have hgl := get_list S i hlt
    rw [← hd] at hgl
    have HD := Lib.hid hgl
    clear hgl
    by_cases hz : c = d
    · have HF := Lib.hid (show b = true by
        rw [← HR.out, HD.out, hz]; simp)
      have hz2 : ((S[i]'hlt).toNat : Int) = (c.toNat : Int) := by rw [hz, hd]
      clear hz hd
      go_wp2
      go_ret
      exact ⟨ret_b HF.out.symm, rfl⟩
    · have HN := Lib.hid (show (S.data.toList.drop (i + 1)).contains c = b by
        rw [← HR.out, HD.out, List.contains_cons]
        simp [hz])
      have hz2 : ¬ ((S[i]'hlt).toNat : Int) = (c.toNat : Int) := fun e => hz (by
        rw [hd]; exact (UInt8.toNat_inj.1 (by omega)).symm)
      clear hz hd
      go_wp2
      go_roundw
      case rel => exact ⟨i + 1, by omega, by simp, HN.out, rfl⟩
      case measure => simp only [toM]; omega
end Go.Proofs.YtdbnddmncbjobaaGreatDoor

/- The reference's Glyph: walked. -/
namespace Go.Proofs.YtdbnddmncbjobaaGreatDoor
open Go Go.RowKit

def L1 : ByteArray := { data := #[105, 106, 108, 46, 44, 59, 58, 33, 124, 39] }
def L2 : ByteArray := { data := #[102, 114, 116, 73, 45, 47, 92, 40, 41, 123, 125] }
def L3 : ByteArray := { data := #[109, 119, 77, 87, 64, 37] }
def rgl (n : Nat) (b1 b2 b3 : Bool) : Int := if n < 33 ∨ 126 < n ∨ n = 91 ∨ n = 93 then 0 else if b1 = true ∨ n = 96 then 4 else if b2 = true ∨ n = 34 then 6 else if b3 = true then 12 else if 65 ≤ n ∧ n ≤ 90 ∨ n = 38 then 10 else 8
set_option maxRecDepth 100000 in
theorem rgl_widB (c : UInt8) : rgl c.toNat (L1.data.toList.contains c) (L2.data.toList.contains c) (L3.data.toList.contains c) = widB c := by
  have : ∀ i : Fin 256, rgl (UInt8.ofNat i.1).toNat (L1.data.toList.contains (UInt8.ofNat i.1)) (L2.data.toList.contains (UInt8.ofNat i.1)) (L3.data.toList.contains (UInt8.ofNat i.1)) = widB (UInt8.ofNat i.1) := by decide
  have h := this ⟨c.toNat, c.toNat_lt⟩
  simpa using h
set_option maxHeartbeats 4000000 in
set_option maxRecDepth 100000 in
theorem rglyph_any (c : UInt8) (w : World) : Calls Tryz.prog 235 #[.int .u8 c.toNat] w (fun e w' => e = .returned (.int .i64 (widB c)) ∧ w' = w) := by
  have HW := rgl_widB c
  obtain ⟨f, hf⟩ : ∃ f : ByteArray → Bool, ∀ S, S.data.toList.contains c = f S := ⟨_, fun _ => rfl⟩
  have HC := Lib.hid (fun (S : ByteArray) (hS : S.size ≤ 1000) => rin_any c S w hS (f S) (hf S))
  rw [hf L1, hf L2, hf L3] at HW
  clear hf
  unfold L1 L2 L3 at HW
  obtain ⟨b1, e1⟩ : ∃ b, f { data := #[105, 106, 108, 46, 44, 59, 58, 33, 124, 39] } = b := ⟨_, rfl⟩
  obtain ⟨b2, e2⟩ : ∃ b, f { data := #[102, 114, 116, 73, 45, 47, 92, 40, 41, 123, 125] } = b := ⟨_, rfl⟩
  obtain ⟨b3, e3⟩ : ∃ b, f { data := #[109, 119, 77, 87, 64, 37] } = b := ⟨_, rfl⟩
  rw [e1, e2, e3] at HW
  have hc := c.toNat_lt
  obtain ⟨n, hn⟩ : ∃ n, c.toNat = n := ⟨_, rfl⟩
  rw [hn] at HW HC hc ⊢
  obtain ⟨v, hv⟩ : ∃ v, widB c = v := ⟨_, rfl⟩
  rw [hv] at HW ⊢
  clear hn hv
  unfold rgl at HW
  by_cases a1 : n < 33
  · rw [if_pos (.inl a1)] at HW
    subst HW
    have a1' : (n : Int) < 33 := by omega
    go_enter Tryz.func235, Tryz.ntmps235
    go_wp2
    go_ret
    exact ⟨rfl, rfl⟩
  have a1' : ¬ (n : Int) < 33 := by omega
  by_cases a2 : 126 < n
  · rw [if_pos (.inr (.inl a2))] at HW
    subst HW
    have a2' : (126 : Int) < (n : Int) := by omega
    go_enter Tryz.func235, Tryz.ntmps235
    go_wp2
    go_ret
    exact ⟨rfl, rfl⟩
  have a2' : ¬ (126 : Int) < (n : Int) := by omega
  by_cases a3 : n = 91
  · subst a3
    have HW := HW
    simp at HW
    subst HW
    go_enter Tryz.func235, Tryz.ntmps235
    go_wp2
    go_ret
    exact ⟨rfl, rfl⟩
  have a3' : ¬ (n : Int) = 91 := by omega
  by_cases a4 : n = 93
  · subst a4
    simp at HW
    subst HW
    go_enter Tryz.func235, Tryz.ntmps235
    go_wp2
    go_ret
    exact ⟨rfl, rfl⟩
  have a4' : ¬ (n : Int) = 93 := by omega
  rw [if_neg (by omega)] at HW
  have q0 : ((n : Int) == 91) = false := by rw [beq_eq_false_iff_ne]; exact a3'
  have q1 : ((n : Int) == 93) = false := by rw [beq_eq_false_iff_ne]; exact a4'
  clear a1 a2 a3 a4
  cases b1
  case true =>
    simp at HW
    subst HW
    go_enter Tryz.func235, Tryz.ntmps235
    go_wp2_with (first | (go_at_call 246; refine (HC.out _ (by decide)).mono ?_; rintro e w1 ⟨rfl, rfl⟩))
    go_ret
    exact ⟨rfl, rfl⟩
  by_cases a5 : n = 96
  · subst a5
    simp at HW
    subst HW
    go_enter Tryz.func235, Tryz.ntmps235
    go_wp2_with (first | (go_at_call 246; refine (HC.out _ (by decide)).mono ?_; rintro e w1 ⟨rfl, rfl⟩))
    go_ret
    exact ⟨rfl, rfl⟩
  have a5' : ¬ (n : Int) = 96 := by omega
  have a5q : ((n : Int) == 96) = false := by rw [beq_eq_false_iff_ne]; exact a5'
  cases b2
  case true =>
    simp [a5] at HW
    subst HW
    go_enter Tryz.func235, Tryz.ntmps235
    go_wp2_with (first | (go_at_call 246; refine (HC.out _ (by decide)).mono ?_; rintro e w1 ⟨rfl, rfl⟩))
    go_ret
    exact ⟨rfl, rfl⟩
  by_cases a6 : n = 34
  · subst a6
    simp at HW
    subst HW
    go_enter Tryz.func235, Tryz.ntmps235
    go_wp2_with (first | (go_at_call 246; refine (HC.out _ (by decide)).mono ?_; rintro e w1 ⟨rfl, rfl⟩))
    go_ret
    exact ⟨rfl, rfl⟩
  have a6' : ¬ (n : Int) = 34 := by omega
  have a6q : ((n : Int) == 34) = false := by rw [beq_eq_false_iff_ne]; exact a6'
  cases b3
  case true =>
    simp [a5, a6] at HW
    subst HW
    go_enter Tryz.func235, Tryz.ntmps235
    go_wp2_with (first | (go_at_call 246; refine (HC.out _ (by decide)).mono ?_; rintro e w1 ⟨rfl, rfl⟩))
    go_ret
    exact ⟨rfl, rfl⟩
  simp only [a5, a6, Bool.false_eq_true, or_self, if_false] at HW
  by_cases a7 : 65 ≤ n
  · have a7' : (65 : Int) ≤ (n : Int) := by omega
    by_cases a8 : n ≤ 90
    · have a8' : (n : Int) ≤ 90 := by omega
      rw [if_pos (.inl ⟨a7, a8⟩)] at HW
      subst HW
      clear a5 a6 a7 a8
      go_enter Tryz.func235, Tryz.ntmps235
      go_wp2_with (first | (go_at_call 246; refine (HC.out _ (by decide)).mono ?_; rintro e w1 ⟨rfl, rfl⟩))
      go_ret
      exact ⟨rfl, rfl⟩
    have a8' : ¬ (n : Int) ≤ 90 := by omega
    have a9' : ¬ (n : Int) = 38 := by omega
    have a9q : ((n : Int) == 38) = false := by rw [beq_eq_false_iff_ne]; exact a9'
    rw [if_neg (by omega)] at HW
    subst HW
    clear a5 a6 a7 a8
    go_enter Tryz.func235, Tryz.ntmps235
    go_wp2_with (first | (go_at_call 246; refine (HC.out _ (by decide)).mono ?_; rintro e w1 ⟨rfl, rfl⟩))
    go_ret
    exact ⟨rfl, rfl⟩
  have a7' : ¬ (65 : Int) ≤ (n : Int) := by omega
  by_cases a9 : n = 38
  · subst a9
    simp at HW
    subst HW
    go_enter Tryz.func235, Tryz.ntmps235
    go_wp2_with (first | (go_at_call 246; refine (HC.out _ (by decide)).mono ?_; rintro e w1 ⟨rfl, rfl⟩))
    go_ret
    exact ⟨rfl, rfl⟩
  have a9' : ¬ (n : Int) = 38 := by omega
  have a9q : ((n : Int) == 38) = false := by rw [beq_eq_false_iff_ne]; exact a9'
  rw [if_neg (by omega)] at HW
  subst HW
  clear a5 a6 a7 a9
  go_enter Tryz.func235, Tryz.ntmps235
  go_wp2_with (first | (go_at_call 246; refine (HC.out _ (by decide)).mono ?_; rintro e w1 ⟨rfl, rfl⟩))
  go_ret
  exact ⟨rfl, rfl⟩
end Go.Proofs.YtdbnddmncbjobaaGreatDoor

/- The reference's Valid: walked. -/
namespace Go.Proofs.YtdbnddmncbjobaaGreatDoor
open Go Go.RowKit

def RpO (S : ByteArray) (w : World) (s3 : Value) (w' : World) : Prop :=
  ∃ (i : Nat) (n : Int), i ≤ S.size ∧ s3 = .int .i64 i ∧ 0 ≤ n ∧ (0 < i → 0 < n) ∧ widGo S.data.toList 0 = widGo (S.data.toList.drop i) n ∧ w = w'
set_option maxHeartbeats 4000000 in
set_option maxRecDepth 100000 in
theorem rvalidW_any (S : ByteArray) (w : World) (b : Bool) (hb : validW S.data.toList = b) : Calls Tryz.prog 234 #[.string S] w (fun e w' => e = .returned (.bool b) ∧ w' = w) := by
  have HG := Lib.hid (fun c => rglyph_any c w)
  by_cases h0 : S.size < 1
  · have h0' : (S.size : Int) < 1 := by omega
    have HE := Lib.hid (show b = false by
      rw [← hb, List.eq_nil_of_length_eq_zero (l := S.data.toList) (by rw [list_size]; omega)]; rfl)
    clear hb
    go_enter Tryz.func234, Tryz.ntmps234
    go_wp2
    go_ret
    exact ⟨ret_b HE.out.symm, rfl⟩
  have h0' : ¬ (S.size : Int) < 1 := by omega
  by_cases h1 : 40 < S.size
  · have h1' : (40 : Int) < (S.size : Int) := by omega
    have HE := Lib.hid (show b = false by rw [← hb]; unfold validW wid; rw [list_size, if_pos h1]; rfl)
    clear hb
    go_enter Tryz.func234, Tryz.ntmps234
    go_wp2
    go_ret
    exact ⟨ret_b HE.out.symm, rfl⟩
  have h1' : ¬ (40 : Int) < (S.size : Int) := by omega
  have HE := Lib.hid (show b = decide (0 < widGo S.data.toList 0) by rw [← hb]; unfold validW wid; rw [list_size, if_neg h1])
  have hsz : S.size ≤ 40 := by omega
  have hs0 : 0 < S.size := by omega
  clear h1 h0 hb
  go_enter Tryz.func234, Tryz.ntmps234
  go_wp2
  go_loopw [3] (fun s3 w' => RpO S w s3 w') (fun s3 _ => toM S.size s3)
  case atStart => exact ⟨0, 0, by omega, rfl, by omega, fun h => by omega, rfl, rfl⟩
  case round =>
    obtain ⟨i, n, hi, rfl, hn0, hn1, hr, rfl⟩ := hrel
    have HR := Lib.hid hr
    have HN := Lib.hid hn1
    clear hr hn1
    by_cases hlt : i < S.size
    case neg =>
      obtain rfl : i = S.size := by omega
      have hni : ¬ ((S.size : Int) < (S.size : Int)) := by omega
      have HF := Lib.hid (show b = true by
        have hn := HN.out hs0
        rw [HE.out, HR.out, List.drop_of_length_le (by rw [list_size]; omega)]
        simp only [widGo]; exact decide_eq_true hn)
      go_wp2
      go_ret
      exact ⟨ret_b HF.out.symm, rfl⟩
    have hI : (i : Int) < (S.size : Int) := by omega
    obtain ⟨c, hc⟩ : ∃ c, c = S[i]'hlt := ⟨_, rfl⟩
    have hgl := get_list S i hlt
    rw [← hc] at hgl
    have HD := Lib.hid hgl
    have HC := Lib.hid hc
    have hb := widB_bd c
    obtain ⟨v, hv⟩ : ∃ v, v = widB c := ⟨_, rfl⟩
    rw [← hv] at hb
    have HV := Lib.hid hv
    have HGC := Lib.hid (show Calls Tryz.prog 235 #[.int .u8 c.toNat] w (fun e w1 => e = .returned (.int .i64 v) ∧ w1 = w) by rw [hv]; exact HG.out c)
    clear hgl hv
    by_cases hz : v = 0
    · have HF := Lib.hid (show b = false by
        rw [HE.out, HR.out, HD.out, widGo, if_pos (by rw [← HV.out]; exact hz)]; rfl)
      subst hz
      go_wp2_with (first | (go_at_call 235; rw [← HC.out]; refine (HGC.out).mono ?_; rintro e w1 ⟨rfl, rfl⟩))
      go_ret
      exact ⟨ret_b HF.out.symm, rfl⟩
    · have hzb : (v == 0) = false := by rw [beq_eq_false_iff_ne]; exact hz
      go_wp2_with (first | (go_at_call 235; rw [← HC.out]; refine (HGC.out).mono ?_; rintro e w1 ⟨rfl, rfl⟩))
      go_roundw
      case rel =>
        refine ⟨i + 1, n + v, by omega, by simp, by omega, fun _ => by omega, ?_, rfl⟩
        rw [HR.out, HD.out, widGo, if_neg (by rw [← HV.out]; exact hz), ← HV.out]
      case measure => simp only [toM]; omega
end Go.Proofs.YtdbnddmncbjobaaGreatDoor

/- The reference's Width: walked. -/
namespace Go.Proofs.YtdbnddmncbjobaaGreatDoor
open Go Go.RowKit

def RqO (S : ByteArray) (w : World) (s3 s4 : Value) (w' : World) : Prop :=
  ∃ (i : Nat) (n : Int), i ≤ S.size ∧ s4 = .int .i64 i ∧ s3 = .int .i64 n ∧ 0 ≤ n ∧ n ≤ 12 * i ∧ widGo S.data.toList 0 = widGo (S.data.toList.drop i) n ∧ w = w'
theorem widGo_nn : ∀ (l : List UInt8) (n : Int), 0 ≤ n → 0 ≤ widGo l n
  | [], _, h => h
  | c :: r, n, h => by
    rw [widGo]
    split
    · omega
    · exact widGo_nn r _ (by have := widB_bd c; omega)
set_option maxHeartbeats 4000000 in
set_option maxRecDepth 100000 in
theorem rwidth_any (S : ByteArray) (w : World) (V : Int) (hV : wid S.data.toList = V) : Calls Tryz.prog 211 #[.string S] w (fun e w' => e = .returned (.int .i64 V) ∧ w' = w) := by
  have HG := Lib.hid (fun c => rglyph_any c w)
  cases hb : validW S.data.toList
  case false =>
    have HV := Lib.hid (rvalidW_any S w false hb)
    have HE := Lib.hid (show V = 0 by
      rw [← hV]
      unfold validW at hb
      have h1 : ¬ 0 < wid S.data.toList := of_decide_eq_false hb
      have h2 : 0 ≤ wid S.data.toList := by unfold wid; split; omega; exact widGo_nn _ _ (by omega)
      omega)
    clear hb hV
    go_enter Tryz.func211, Tryz.ntmps211
    go_wp2_with (first | (go_at_call 234; refine (HV.out).mono ?_; rintro e w1 ⟨rfl, rfl⟩))
    go_ret
    exact ⟨ret_i HE.out.symm, rfl⟩
  have HVd := Lib.hid (rvalidW_any S w true hb)
  unfold validW at hb
  have hp : 0 < wid S.data.toList := of_decide_eq_true hb
  have h1 : ¬ 40 < S.size := fun h => by unfold wid at hp; rw [list_size, if_pos h] at hp; omega
  have HE := Lib.hid (show V = widGo S.data.toList 0 by rw [← hV]; unfold wid; rw [list_size, if_neg h1])
  have HP := Lib.hid (show 0 < V by rw [← hV]; exact hp)
  have hsz : S.size ≤ 40 := by omega
  clear hb hp hV h1
  go_enter Tryz.func211, Tryz.ntmps211
  go_wp2_with (first | (go_at_call 234; refine (HVd.out).mono ?_; rintro e w1 ⟨rfl, rfl⟩))
  go_loopw [3, 4] (fun s3 s4 w' => RqO S w1 s3 s4 w') (fun _ s4 _ => toM S.size s4)
  case atStart => exact ⟨0, 0, by omega, rfl, rfl, by omega, by omega, rfl, rfl⟩
  case round =>
    rename World => wr
    obtain ⟨i, n, hi, rfl, rfl, hn0, hn1, hr, rfl⟩ := hrel
    have HR := Lib.hid hr
    clear hr
    by_cases hlt : i < S.size
    case neg =>
      obtain rfl : i = S.size := by omega
      have hni : ¬ ((S.size : Int) < (S.size : Int)) := by omega
      have HF := Lib.hid (show V = n by rw [HE.out, HR.out, List.drop_of_length_le (by rw [list_size]; omega)]; rfl)
      go_wp2
      go_ret
      exact ⟨ret_i HF.out.symm, rfl⟩
    have hI : (i : Int) < (S.size : Int) := by omega
    obtain ⟨c, hc⟩ : ∃ c, c = S[i]'hlt := ⟨_, rfl⟩
    have hgl := get_list S i hlt
    rw [← hc] at hgl
    have HD := Lib.hid hgl
    have HC := Lib.hid hc
    have hb := widB_bd c
    obtain ⟨v, hv⟩ : ∃ v, v = widB c := ⟨_, rfl⟩
    rw [← hv] at hb
    have HV := Lib.hid hv
    have HGC := Lib.hid (show ∀ W, Calls Tryz.prog 235 #[.int .u8 c.toNat] W (fun e w1 => e = .returned (.int .i64 v) ∧ w1 = W) by intro W; rw [hv]; exact rglyph_any c W)
    have hz : ¬ v = 0 := fun h => by
      have h2 := HP.out
      rw [HE.out, HR.out, HD.out, widGo, if_pos (by rw [← HV.out]; exact h)] at h2
      omega
    clear hgl hv
    go_wp2_with (first | (go_at_call 235; rw [← HC.out]; refine (HGC.out _).mono ?_; rintro e w1 ⟨rfl, rfl⟩))
    go_roundw
    case rel =>
      refine ⟨i + 1, n + v, by omega, by simp, rfl, by omega, by omega, ?_, rfl⟩
      rw [HR.out, HD.out, widGo, if_neg (by rw [← HV.out]; exact hz), ← HV.out]
    case measure => simp only [toM]; omega
end Go.Proofs.YtdbnddmncbjobaaGreatDoor

/- The reference's word: walked. -/
namespace Go.Proofs.YtdbnddmncbjobaaGreatDoor
open Go Go.RowKit

set_option maxHeartbeats 1000000 in
set_option maxRecDepth 100000 in
theorem rword_any (w : World) (S K : List UInt8) (tb nt next nn : Int) (hS : validW S = true) (hK : K = [] ∨ validW K = true) (ht : tb = 0 ∨ tb = 1) (hn : nt = 0 ∨ (nt ≠ 0 ∧ nt = next ∧ next ≤ nn)) :
    Calls Tryz.prog 210 #[.agg #[.string ⟨S.toArray⟩, .string ⟨K.toArray⟩, .int .i64 tb, .int .i64 nt], .int .i64 next, .int .i64 nn] w (fun e w' => e = .returned (.int .i64 0) ∧ Ext w w') := by
  have HV1 := Lib.hid (fun X => rvalidW_any ⟨S.toArray⟩ X true hS)
  clear hS
  by_cases hk : K = []
  · subst hk
    clear hK
    rcases ht with rfl | rfl
    · rcases hn with rfl | ⟨h0, rfl, h2⟩
      · go_enter Tryz.func210, Tryz.ntmps210
        go_wp2_with (first | (go_at_call 234; refine (HV1.out _).mono ?_; rintro e w1 ⟨rfl, rfl⟩))
        go_ret
        exact ⟨rfl, (Ext.refl _).alloc _⟩
      · have h0b : (nt == 0) = false := by rw [beq_eq_false_iff_ne]; exact h0
        have h2' : ¬ nn < nt := by omega
        go_enter Tryz.func210, Tryz.ntmps210
        go_wp2_with (first | (go_at_call 234; refine (HV1.out _).mono ?_; rintro e w1 ⟨rfl, rfl⟩))
        go_ret
        exact ⟨rfl, (Ext.refl _).alloc _⟩
    · rcases hn with rfl | ⟨h0, rfl, h2⟩
      · go_enter Tryz.func210, Tryz.ntmps210
        go_wp2_with (first | (go_at_call 234; refine (HV1.out _).mono ?_; rintro e w1 ⟨rfl, rfl⟩))
        go_ret
        exact ⟨rfl, (Ext.refl _).alloc _⟩
      · have h0b : (nt == 0) = false := by rw [beq_eq_false_iff_ne]; exact h0
        have h2' : ¬ nn < nt := by omega
        go_enter Tryz.func210, Tryz.ntmps210
        go_wp2_with (first | (go_at_call 234; refine (HV1.out _).mono ?_; rintro e w1 ⟨rfl, rfl⟩))
        go_ret
        exact ⟨rfl, (Ext.refl _).alloc _⟩
  · have hKv := hK.resolve_left hk
    have HV2 := Lib.hid (fun X => rvalidW_any ⟨K.toArray⟩ X true hKv)
    obtain ⟨SB, hSB⟩ : ∃ SB : ByteArray, (⟨S.toArray⟩ : ByteArray) = SB := ⟨_, rfl⟩
    obtain ⟨KB, hKB⟩ : ∃ KB : ByteArray, (⟨K.toArray⟩ : ByteArray) = KB := ⟨_, rfl⟩
    have hkn : ¬ KB.toList = [] := by rw [← hKB, ByteArray.toList_eq]; exact hk
    have hkb : (KB.toList == ([] : List UInt8)) = false := by simpa using hkn
    rw [hSB] at HV1 ⊢
    rw [hKB] at HV2 ⊢
    clear hK hKv hSB hKB hk
    rcases ht with rfl | rfl
    · rcases hn with rfl | ⟨h0, rfl, h2⟩
      · go_enter Tryz.func210, Tryz.ntmps210
        go_wp2_with fail
        refine (HV1.out _).mono ?_
        rintro e w1 ⟨rfl, rfl⟩
        go_wp2_with fail
        refine (HV2.out _).mono ?_
        rintro e w1 ⟨rfl, rfl⟩
        go_wp2_with fail
        go_ret
        exact ⟨rfl, (Ext.refl _).alloc _⟩
      · have h0b : (nt == 0) = false := by rw [beq_eq_false_iff_ne]; exact h0
        have h2' : ¬ nn < nt := by omega
        go_enter Tryz.func210, Tryz.ntmps210
        go_wp2_with fail
        refine (HV1.out _).mono ?_
        rintro e w1 ⟨rfl, rfl⟩
        go_wp2_with fail
        refine (HV2.out _).mono ?_
        rintro e w1 ⟨rfl, rfl⟩
        go_wp2_with fail
        go_ret
        exact ⟨rfl, (Ext.refl _).alloc _⟩
    · rcases hn with rfl | ⟨h0, rfl, h2⟩
      · go_enter Tryz.func210, Tryz.ntmps210
        go_wp2_with fail
        refine (HV1.out _).mono ?_
        rintro e w1 ⟨rfl, rfl⟩
        go_wp2_with fail
        refine (HV2.out _).mono ?_
        rintro e w1 ⟨rfl, rfl⟩
        go_wp2_with fail
        go_ret
        exact ⟨rfl, (Ext.refl _).alloc _⟩
      · have h0b : (nt == 0) = false := by rw [beq_eq_false_iff_ne]; exact h0
        have h2' : ¬ nn < nt := by omega
        go_enter Tryz.func210, Tryz.ntmps210
        go_wp2_with fail
        refine (HV1.out _).mono ?_
        rintro e w1 ⟨rfl, rfl⟩
        go_wp2_with fail
        refine (HV2.out _).mono ?_
        rintro e w1 ⟨rfl, rfl⟩
        go_wp2_with fail
        go_ret
        exact ⟨rfl, (Ext.refl _).alloc _⟩
end Go.Proofs.YtdbnddmncbjobaaGreatDoor

/- book.cloned: walked. -/
namespace Go.Proofs.YtdbnddmncbjobaaGreatDoor
open Go Go.RowKit

variable {β : Type}
/-- A book of bounded sizes. -/
structure TxS (t : Tx) : Prop where
  np : t.paras.length ≤ 1000000
  nn : t.notes.length ≤ 1000000
  len : ∀ p ∈ t.paras ++ t.notes, p.length ≤ 1000000
structure BkS (l : List Se) : Prop where
  n : l.length ≤ 1000000
  nv : ∀ s ∈ l, s.vers.length ≤ 1000000
  nt : ∀ s ∈ l, s.texts.length ≤ 1000000
  tx : ∀ s ∈ l, ∀ t ∈ s.texts, TxS t
/-- The section x lies in blocks from lo to hi: its texts ahead of its versions; both are rows of the call's own. -/
def SeO (W : World) (lo hi : Nat) (x : Se) (cs : List Value) : Prop := ∃ (m : Nat) (A1 : Option Addr) (n1 c1 : Nat) (A2 : Option Addr) (n2 c2 : Nat), cs = [.int .i64 x.ent, .bool x.fz, .slice A1 n1 c1, .slice A2 n2 c2] ∧ lo ≤ m ∧ m ≤ hi ∧ n1 ≤ c1 ∧ n2 ≤ c2 ∧ n1 = x.vers.length ∧ n2 = x.texts.length ∧
  kTx.own 53 W lo (fun q => lo ≤ q ∧ q < m) (.slice A2 n2 c2) x.texts ∧ (∀ j, (Value.slice A2 n2 c2).ownBlock = some j → j < m) ∧ kInt.own 3 W m (fun _ => False) (.slice A1 n1 c1) x.vers ∧ (∀ j, (Value.slice A1 n1 c1).ownBlock = some j → j < hi)
theorem SeO.keep {W W' : World} {lo hi : Nat} {x : Se} {cs : List Value} (h : SeO W lo hi x cs) (hs : W.heap.size ≤ W'.heap.size) (hk : ∀ q, lo ≤ q → q < hi → q < W.heap.size → W'.heap[q]? = W.heap[q]?) : SeO W' lo hi x cs := by
  obtain ⟨m, A1, n1, c1, A2, n2, c2, h1, h2, h3, h4, h5, h6, h7, h8, h9, ha, hb⟩ := h
  refine ⟨m, A1, n1, c1, A2, n2, c2, h1, h2, h3, h4, h5, h6, h7, Lay.own_keep h8 hs fun j hj hl => ?_, h9, Lay.own_keep ha hs fun j hj hl => ?_, hb⟩
  · rcases hj with hj | hj
    · exact hk j hj.1 (by omega) hl
    · exact hk j (Lay.own_lt h8 j hj).1 (by have := h9 j hj; omega) hl
  · rcases hj with hj | hj
    · exact hj.elim
    · exact hk j (by have := (Lay.own_lt ha j hj).1; omega) (hb j hj) hl
theorem SeO.rep {W : World} {lo hi : Nat} {x : Se} {cs : List Value} (h : SeO W lo hi x cs) : kSe.rep W (fun q => lo ≤ q ∧ q < hi) x cs := by
  obtain ⟨m, A1, n1, c1, A2, n2, c2, h1, h2, h3, h4, h5, h6, h7, h8, h9, ha, hb⟩ := h
  obtain ⟨A8, c8, e8, _, r8⟩ := Lay.own_row h8
  obtain ⟨A9, c9, e9, _, r9⟩ := Lay.own_row ha
  obtain ⟨e1, e2, _⟩ := Value.slice.inj e8
  obtain ⟨e4, e5, _⟩ := Value.slice.inj e9
  rw [← e1, ← e2] at r8
  rw [← e4, ← e5] at r9
  refine kSe_rep.2 ⟨A1, n1, c1, A2, n2, c2, h1, h4, h5, Lay.row_mono r9 fun q hq _ => ?_, Lay.row_mono r8 fun q hq _ => ?_⟩
  · rcases hq with hq | hq
    · exact hq.elim
    · exact ⟨by have := (Lay.own_lt ha q hq).1; omega, hb q hq⟩
  · rcases hq with hq | hq
    · omega
    · exact ⟨(Lay.own_lt h8 q hq).1, by have := h9 q hq; omega⟩
theorem Lay.own_base {k : Lay β} {e : TypeId} {W : World} {base base' : Nat} {P : Nat → Prop} {v : Value} {xs : List β} (h : k.own e W base P v xs) (hb : base' ≤ base) : k.own e W base' P v xs := by
  obtain ⟨ds, h1, h2⟩ := h
  refine ⟨ds, ⟨h1.1, ?_⟩, h2⟩
  rcases h1.2 with h | ⟨g, cap, cur, a1, a2, a3⟩
  · exact .inl h
  · exact .inr ⟨g, cap, cur, a1, Nat.le_trans hb a2, a3⟩
theorem CdR_row {w' : World} {g n : Nat} {ls : List Se} {ds : List (Cs kSe.sz)} (hn : n = ls.length) (h1 : w'.heap[g]? = some (.cells (gcells ccf ds).toArray 46 (0, 0))) (h2 : ds.length = ls.length)
    (h3 : ∀ (j : Nat) (d : Cs kSe.sz) (x : Se), ds[j]? = some d → ls[j]? = some x → kSe.rep w' (fun q => g < q) x (ccf d)) : kSe.row w' (fun q => g ≤ q) (some ⟨g, 0, none⟩) n ls := by
  have hl := gcells_len (cf := ccf) ccf_len ds
  refine ⟨ds, hn, h2, ⟨by omega, fun _ => ⟨g, 0, rfl, lt_of_block h1, fun i d hd j u hu => ?_⟩⟩, fun x hx => ?_, fun i d x hd hx => kSe.mono (h3 i d x hd hx) fun q hq _ => Nat.le_of_lt hq⟩
  · have hj : j < kSe.sz := by rw [← ccf_len d]; exact (List.getElem?_eq_some_iff.1 hu).1
    have := gcells_at (cf := ccf) ccf_len ds i d hd j hj
    rw [hu] at this
    rw [Nat.zero_add]
    exact cell_of h1 (by simpa using this)
  · injection hx with hx; subst hx; exact ⟨Nat.le_refl _, lt_of_block h1⟩
end Go.Proofs.YtdbnddmncbjobaaGreatDoor

/- book.cloned: walked. -/
namespace Go.Proofs.YtdbnddmncbjobaaGreatDoor
open Go Go.RowKit

theorem info46 : (Tryz.prog.info? 46).map (fun i => (i.zero, i.size, i.bytes)) = some (some (Value.agg #[.int .i64 0, .bool false, .slice none 0 0, .slice none 0 0]), 4, 64) := by kernel_rfl
theorem info53 : (Tryz.prog.info? 53).map (fun i => (i.zero, i.size, i.bytes)) = some (some (Value.agg #[.slice none 0 0, .slice none 0 0]), 2, 48) := by kernel_rfl
/-- A book's sections in a block of the call's own. -/
def BkO (W : World) (base : Nat) (ls : List Se) (g : Nat) : Prop := ∃ ds : List (Cs kSe.sz), base ≤ g ∧ W.heap[g]? = some (.cells (gcells ccf ds).toArray 46 (0, 0)) ∧ ds.length = ls.length ∧ ∀ (j : Nat) (d : Cs kSe.sz) (x : Se), ds[j]? = some d → ls[j]? = some x → kSe.rep W (fun q => g < q) x (ccf d)
theorem BkO.row {W : World} {base : Nat} {ls : List Se} {g : Nat} (h : BkO W base ls g) : kSe.row W (fun q => base ≤ q) (some ⟨g, 0, none⟩) ls.length ls := by
  obtain ⟨ds, h0, h1, h2, h3⟩ := h
  exact Lay.row_mono (CdR_row rfl h1 h2 h3) fun j hj _ => Nat.le_trans h0 hj
end Go.Proofs.YtdbnddmncbjobaaGreatDoor

/- book.Freeze: walked. -/
namespace Go.Proofs.YtdbnddmncbjobaaGreatDoor
open Go Go.RowKit

end Go.Proofs.YtdbnddmncbjobaaGreatDoor

/- slices.IndexFunc at sections, book.find, the search of cite.Of: walked (printed by genfn.py). -/
namespace Go.Proofs.YtdbnddmncbjobaaGreatDoor
open Go Go.RowKit

end Go.Proofs.YtdbnddmncbjobaaGreatDoor

/- The pages of generated texts: there are some, not too many, with not too many lines. -/
namespace Go.Proofs.YtdbnddmncbjobaaGreatDoor

def lrefs (l : List Ln) : List Int := l.flatMap (·.nts)
theorem lrefs_append (a b : List Ln) : lrefs (a ++ b) = lrefs a ++ lrefs b := by simp [lrefs]
theorem ntsOfB (p : List Wd) : (p.filterMap fun w => if w.nt ≠ 0 then some (w.nt - 1) else none) = (refs p).map (· - 1) := by
  induction p with
  | nil => rfl
  | cons w r ih =>
    by_cases h : w.nt ≠ 0
    · rw [List.filterMap_cons_some (by rw [if_pos h]), ih]
      unfold refs
      rw [List.filter_cons_of_pos (by simpa using h)]; rfl
    · rw [List.filterMap_cons_none (by rw [if_neg h]), ih]
      unfold refs
      rw [List.filter_cons_of_neg (by simpa using h)]
theorem linesGo_nts (m : Int) : ∀ (ls : List Nat) (ws : List Wd) (first : Int), ls.sum = ws.length → lrefs (linesGo m ws ls first) = (refs ws).map (· - 1) := by
  intro ls
  induction ls with
  | nil =>
    intro ws first h
    obtain rfl : ws = [] := List.eq_nil_of_length_eq_zero (by simpa using h.symm)
    simp [linesGo, lrefs, refs]
  | cons l ls ih =>
    intro ws first h
    rw [List.sum_cons] at h
    simp only [linesGo]
    show _ ++ lrefs _ = _
    rw [ih _ _ (by simp; omega), ntsOfB, ← List.map_append, ← refs_append, List.take_append_drop]
theorem linesGo_lenB (m : Int) : ∀ (ls : List Nat) (ws : List Wd) (first : Int), (linesGo m ws ls first).length = ls.length := by
  intro ls
  induction ls with
  | nil => intro ws first; simp [linesGo]
  | cons l ls ih => intro ws first; simp [linesGo, ih]
theorem sum_ge {l : List Nat} (h : ∀ x ∈ l, 1 ≤ x) : l.length ≤ l.sum := by
  induction l with
  | nil => simp
  | cons a l ih => have := ih fun x hx => h x (by simp [hx]); have := h a (by simp); simp; omega
theorem setP_nts {m : Int} (hm : 500 ≤ m) (ws : List Wd) (first : Int) : lrefs (setP ws first m) = (refs ws).map (· - 1) :=
  linesGo_nts m _ _ _ (by rw [(lens_ok hm (wds_of ws)).2]; simp)
theorem setP_len {m : Int} (hm : 500 ≤ m) (ws : List Wd) (first : Int) : (setP ws first m).length ≤ ws.length ∧ (ws ≠ [] → 1 ≤ (setP ws first m).length) := by
  have h := lens_ok hm (wds_of ws)
  have h1 := sum_ge h.1
  rw [h.2, List.length_map] at h1
  unfold setP
  rw [linesGo_lenB]
  refine ⟨h1, fun h0 => ?_⟩
  have h2 := h.2
  cases hl : lens (ws.map fun w => wid w.s) m with
  | nil =>
    rw [hl] at h2
    exact absurd (List.eq_nil_of_length_eq_zero (by simpa using h2.symm)) h0
  | cons a b => simp
theorem setsP_lenB (m : Int) : ∀ (ps : List (List Wd)) (first : Int), (setsP m ps first).length = ps.length := by
  intro ps
  induction ps with
  | nil => intro _; rfl
  | cons p ps ih => intro first; simp [setsP, ih]
theorem setsP_nts {m : Int} (hm : 500 ≤ m) : ∀ (ps : List (List Wd)) (first : Int), lrefs (setsP m ps first).flatten = (refs ps.flatten).map (· - 1) := by
  intro ps
  induction ps with
  | nil => intro _; rfl
  | cons p ps ih =>
    intro first
    simp only [setsP, List.flatten_cons, lrefs_append, refs_append, List.map_append]
    rw [setP_nts hm, ih]
theorem setsP_mem {m : Int} : ∀ (ps : List (List Wd)) (first : Int), ∀ l ∈ setsP m ps first, ∃ p ∈ ps, ∃ f, l = setP p f m := by
  intro ps
  induction ps with
  | nil => intro _ l hl; simp [setsP] at hl
  | cons p ps ih =>
    intro first l hl
    simp only [setsP, List.mem_cons] at hl
    rcases hl with rfl | hl
    · exact ⟨p, by simp, first, rfl⟩
    · obtain ⟨q, hq, f, e⟩ := ih _ l hl
      exact ⟨q, by simp [hq], f, e⟩
theorem flat_len {m : Int} (hm : 500 ≤ m) (B : Nat) : ∀ (ps : List (List Wd)) (first : Int), (∀ p ∈ ps, p.length ≤ B) → (setsP m ps first).flatten.length ≤ B * ps.length := by
  intro ps
  induction ps with
  | nil => intro _ _; simp [setsP]
  | cons p ps ih =>
    intro first h
    have h1 := ih (first + p.length) fun q hq => h q (by simp [hq])
    have h2 := (setP_len hm p first).1
    have h3 := h p (by simp)
    simp only [setsP, List.flatten_cons, List.length_append, List.length_cons, Nat.mul_add, Nat.mul_one]
    omega
theorem ordN_ok (nn : Int) : ∀ (l : List Int) (k : Nat), l = (List.range l.length).map (fun (i : Nat) => (k : Int) + i) → (k : Int) + l.length ≤ nn → ordN nn l k = some ((k + l.length : Nat) : Int) := by
  intro l
  induction l with
  | nil => intro k _ _; simp [ordN]
  | cons n r ih =>
    intro k hl hk
    simp only [List.length_cons, List.range_succ_eq_map, List.map_cons, List.map_map, List.cons.injEq] at hl hk
    have h1 : n = k := by simpa using hl.1
    simp only [ordN]
    rw [if_neg (by omega)]
    have := ih (k + 1) (hl.2.trans (List.map_congr_left fun i _ => by simp only [Function.comp, Nat.succ_eq_add_one]; omega)) (by omega)
    rw [show (k : Int) + 1 = ((k + 1 : Nat) : Int) by omega, this]
    simp only [List.length_cons]
    congr 1; omega
theorem range_split0 (a b k : Nat) : (List.range (a + b)).map (fun (i : Nat) => (k : Int) + i) = (List.range a).map (fun (i : Nat) => (k : Int) + i) ++ (List.range b).map (fun (i : Nat) => ((k + a : Nat) : Int) + i) := by
  rw [List.range_add, List.map_append, List.map_map]
  congr 1
  refine List.map_congr_left fun i _ => ?_
  simp only [Function.comp]; omega
theorem ordL_ok (nn : Int) : ∀ (l : List Ln) (k : Nat), lrefs l = (List.range (lrefs l).length).map (fun (i : Nat) => (k : Int) + i) → (k : Int) + (lrefs l).length ≤ nn → ordL nn l k = some ((k + (lrefs l).length : Nat) : Int) := by
  intro l
  induction l with
  | nil => intro k _ _; simp [ordL, lrefs]
  | cons x r ih =>
    intro k hl hk
    have e : lrefs (x :: r) = x.nts ++ lrefs r := rfl
    rw [e] at hl hk ⊢
    rw [List.length_append] at hl hk ⊢
    rw [range_split0] at hl
    have hl := List.append_inj hl (by simp)
    simp only [ordL]
    rw [ordN_ok nn x.nts k hl.1 (by omega)]
    simp only [Option.bind_some]
    rw [ih _ hl.2 (by omega)]
    congr 1; omega
theorem setF_len (h : Int) (notes : List (List Ln)) : ∀ (f : Nat) (body q : List Ln), (setF h notes f body q).length ≤ f := by
  intro f
  induction f with
  | zero => intro _ _; simp [setF]
  | succ f ih => intro body q; rw [setF]; split
                 · simp
                 · simp only [List.length_cons]; have := ih (body.drop (fillP h notes body q 0 (min (q.length : Int) (h - 1))).1) ((fillP h notes body q 0 (min (q.length : Int) (h - 1))).2.1.drop (fillP h notes body q 0 (min (q.length : Int) (h - 1))).2.2.toNat); omega
/-- A page holds no more lines than its height. -/
theorem setF_room {h : Int} (hh : 4 ≤ h) (notes : List (List Ln)) : ∀ (f : Nat) (body q : List Ln), ∀ p ∈ setF h notes f body q, (p.1.length : Int) + p.2.length ≤ h := by
  intro f
  induction f with
  | zero => intro body q p hp; simp [setF] at hp
  | succ f ih =>
    intro body q p hp
    rw [setF] at hp
    split at hp
    · simp at hp
    · simp only [List.mem_cons] at hp
      rcases hp with rfl | hp
      · obtain ⟨g1, _, g3, _, _⟩ := fillP_ok h notes body q 0 _ (fill_start hh q)
        have h1 := g1.room
        have h2 := g1.pos
        unfold roomP at h1
        simp only [List.length_take]
        omega
      · exact ih _ _ p hp
theorem leftP_bd (notes : List (List Ln)) (body : List Ln) (B : Nat) (hB : ∀ n : Nat, (notes[n]?.getD []).length ≤ B) : leftP notes body [] ≤ body.length + B * (lrefs body).length := by
  unfold leftP
  induction body with
  | nil => simp [lrefs]
  | cons x r ih =>
    have h1 : (notesOf notes x).length ≤ B * x.nts.length := by
      unfold notesOf
      induction x.nts with
      | nil => simp
      | cons n l ihl => rw [List.flatMap_cons, List.length_append, List.length_cons, Nat.mul_add]; have := hB n.toNat; omega
    have e : lrefs (x :: r) = x.nts ++ lrefs r := rfl
    rw [e, List.length_append, Nat.mul_add]
    simp only [List.map_cons, List.sum_cons, List.length_cons, List.length_nil, Nat.zero_add] at ih ⊢
    omega
/-- The pages of a generated text. -/
theorem textP_ok {t : Tx} (ht : OkT t) {m h : Int} (hm : 500 ≤ m) (hm2 : m ≤ 2000) (hh : 4 ≤ h) (hh2 : h ≤ 100) :
    (textP t m h).1 = 0 ∧ (textP t m h).2 ≠ [] ∧ (textP t m h).2.length ≤ 200 ∧ ∀ p ∈ (textP t m h).2, (p.1.length : Int) + p.2.length ≤ h := by
  have hl : linesT t m = (0, (setsP m t.paras 0).flatten, setsP m t.notes (t.paras.map List.length).sum) := by
    unfold linesT
    rw [if_neg (by rw [chkT_ok ht]; simp), if_neg (by omega)]
  obtain ⟨body, hb⟩ : ∃ b, b = (setsP m t.paras 0).flatten := ⟨_, rfl⟩
  obtain ⟨notes, hn⟩ : ∃ b, b = setsP m t.notes (t.paras.map List.length).sum := ⟨_, rfl⟩
  rw [← hb, ← hn] at hl
  have hnl : notes.length = t.notes.length := by rw [hn]; exact setsP_lenB _ _ _
  have hr : lrefs body = (List.range t.notes.length).map fun (i : Nat) => (i : Int) := by
    rw [hb, setsP_nts hm, ht.rf, upto, List.map_map]
    exact List.map_congr_left fun i _ => by simp only [Function.comp]; omega
  have hrl : (lrefs body).length = t.notes.length := by rw [hr]; simp
  have hnm : ∀ l ∈ notes, 1 ≤ l.length ∧ l.length ≤ 12 := fun l hl => by
    rw [hn] at hl
    obtain ⟨p, hp, f, rfl⟩ := setsP_mem _ _ l hl
    have h1 := setP_len hm p f
    have h2 := ht.len p hp
    exact ⟨h1.2 (fun e => by rw [e] at h2; simp at h2), by omega⟩
  have hc : chkPg body notes h = 0 := by
    unfold chkPg
    have h1 : notes.any (fun l => decide (l.length = 0)) = false := by
      rw [List.any_eq_false]; intro l hl hd; have := hnm l hl; simp only [decide_eq_true_eq] at hd; omega
    rw [if_neg (by omega), if_neg (by rw [h1]; simp)]
    have := ordL_ok notes.length body 0 (by rw [hrl, hr]; exact List.map_congr_left fun i _ => by simp) (by rw [hrl]; omega)
    rw [show ((0 : Nat) : Int) = 0 by rfl] at this
    rw [this, hrl]
    simp only
    rw [if_neg (by omega)]
  have hbl : body.length ≤ 160 := by
    have := flat_len hm 40 t.paras 0 fun p hp => (ht.par.len p hp).2
    have := ht.np
    rw [hb]; omega
  have hb0 : body ≠ [] := by
    rw [hb]
    have := ht.np
    cases hp : t.paras with
    | nil => rw [hp] at this; simp at this
    | cons p ps =>
      have h2 := ht.par.len p (by rw [hp]; simp)
      have h3 := (setP_len hm p 0).2 (fun e => by rw [e] at h2; simp at h2)
      simp only [setsP, List.flatten_cons]
      intro e
      rw [List.append_eq_nil_iff] at e
      rw [e.1] at h3
      simp at h3
  have hleft : leftP notes body [] ≤ 200 := by
    have := leftP_bd notes body 12 fun n => by
      cases hx : notes[n]? with
      | none => simp
      | some l => simpa using (hnm l (List.mem_of_getElem? hx)).2
    rw [hrl] at this
    have := ht.nn
    omega
  have e : textP t m h = (0, setF h notes (leftP notes body []) body []) := by
    unfold textP
    rw [if_neg (by rw [hl]; simp), hl]
    simp only [setPg]
    rw [if_neg (by rw [hc]; simp)]
  rw [e]
  refine ⟨rfl, ?_, ?_, fun p hp => setF_room hh notes _ _ _ p hp⟩
  · simp only
    obtain ⟨h1, _⟩ := setF_step hh notes body [] (fun hx => hb0 hx.1) _ rfl
    rw [h1]
    simp
  · have := setF_len h notes (leftP notes body []) body []
    simp only; omega
end Go.Proofs.YtdbnddmncbjobaaGreatDoor

/- What the lines of a generated text are, for the walk of page.Text. -/
namespace Go.Proofs.YtdbnddmncbjobaaGreatDoor

theorem gapsP_le (ws : List Int) (m : Int) (b : Bool) : (gapsP ws m b).length ≤ ws.length := by
  unfold gapsP
  cases b
  · rw [if_neg (by simp), gapsGo_len]; omega
  · rw [if_pos rfl, List.length_replicate]; omega
theorem linesGo_small (m : Int) (B : Nat) : ∀ (ls : List Nat) (ws : List Wd) (first : Int), (ws.length ≤ B) → ∀ x ∈ linesGo m ws ls first, x.gaps.length ≤ B ∧ x.nts.length ≤ B := by
  intro ls
  induction ls with
  | nil => intro ws first _ x hx; simp [linesGo] at hx
  | cons l ls ih =>
    intro ws first hB x hx
    simp only [linesGo] at hx
    rcases List.mem_cons.1 hx with rfl | hx
    · have h1 := gapsP_le ((ws.take l).map fun w => wid w.s) m ls.isEmpty
      rw [List.length_map, List.length_take] at h1
      have h2 : ((ws.take l).filterMap fun w => if w.nt ≠ 0 then some (w.nt - 1) else none).length ≤ (ws.take l).length := List.length_filterMap_le ..
      rw [List.length_take] at h2
      simp only
      omega
    · exact ih _ _ (by rw [List.length_drop]; omega) x hx
theorem setsP_small (m : Int) (B : Nat) (ps : List (List Wd)) (first : Int) (h : ∀ p ∈ ps, p.length ≤ B) : ∀ l ∈ setsP m ps first, ∀ x ∈ l, x.gaps.length ≤ B ∧ x.nts.length ≤ B := fun l hl x hx => by
  obtain ⟨p, hp, f, rfl⟩ := setsP_mem _ _ l hl
  exact linesGo_small m B _ _ _ (h p hp) x hx
/-- The lines of a generated text. -/
structure TxP (t : Tx) (m h : Int) : Prop where
  chk : chkT t = 0
  pg : chkPg (linesT t m).2.1 (linesT t m).2.2 h = 0
  ne : (linesT t m).2.1 ≠ []
  left : leftP (linesT t m).2.2 (linesT t m).2.1 [] ≤ 200
  lnb : LnsB (linesT t m).2.1
  lnn : ∀ l ∈ (linesT t m).2.2, LnsB l
  nts : NtsOk (linesT t m).2.2.length (linesT t m).2.1
  nn : (linesT t m).2.2.length ≤ 3
  eq : (textP t m h).2 = (setPg (linesT t m).2.1 (linesT t m).2.2 h).2
theorem txP_of {t : Tx} (ht : OkT t) {m h : Int} (hm : 500 ≤ m) (hm2 : m ≤ 2000) (hh : 4 ≤ h) (hh2 : h ≤ 100) : TxP t m h := by
  have hl : linesT t m = (0, (setsP m t.paras 0).flatten, setsP m t.notes (t.paras.map List.length).sum) := by
    unfold linesT
    rw [if_neg (by rw [chkT_ok ht]; simp), if_neg (by omega)]
  obtain ⟨body, hb⟩ : ∃ b, b = (setsP m t.paras 0).flatten := ⟨_, rfl⟩
  obtain ⟨notes, hn⟩ : ∃ b, b = setsP m t.notes (t.paras.map List.length).sum := ⟨_, rfl⟩
  rw [← hb, ← hn] at hl
  have hnl : notes.length = t.notes.length := by rw [hn]; exact setsP_lenB _ _ _
  have hr : lrefs body = (List.range t.notes.length).map fun (i : Nat) => (i : Int) := by
    rw [hb, setsP_nts hm, ht.rf, upto, List.map_map]
    exact List.map_congr_left fun i _ => by simp only [Function.comp]; omega
  have hrl : (lrefs body).length = t.notes.length := by rw [hr]; simp
  have hnm : ∀ l ∈ notes, 1 ≤ l.length ∧ l.length ≤ 12 := fun l hl => by
    rw [hn] at hl
    obtain ⟨p, hp, f, rfl⟩ := setsP_mem _ _ l hl
    have h1 := setP_len hm p f
    have h2 := ht.len p hp
    exact ⟨h1.2 (fun e => by rw [e] at h2; simp at h2), by omega⟩
  have hc : chkPg body notes h = 0 := by
    unfold chkPg
    have h1 : notes.any (fun l => decide (l.length = 0)) = false := by
      rw [List.any_eq_false]; intro l hl hd; have := hnm l hl; simp only [decide_eq_true_eq] at hd; omega
    rw [if_neg (by omega), if_neg (by rw [h1]; simp)]
    have := ordL_ok notes.length body 0 (by rw [hrl, hr]; exact List.map_congr_left fun i _ => by simp) (by rw [hrl]; omega)
    rw [show ((0 : Nat) : Int) = 0 by rfl] at this
    rw [this, hrl]
    simp only
    rw [if_neg (by omega)]
  have hbl : body.length ≤ 160 := by
    have := flat_len hm 40 t.paras 0 fun p hp => (ht.par.len p hp).2
    have := ht.np
    rw [hb]; omega
  have hb0 : body ≠ [] := by
    rw [hb]
    have := ht.np
    cases hp : t.paras with
    | nil => rw [hp] at this; simp at this
    | cons p ps =>
      have h2 := ht.par.len p (by rw [hp]; simp)
      have h3 := (setP_len hm p 0).2 (fun e => by rw [e] at h2; simp at h2)
      simp only [setsP, List.flatten_cons]
      intro e
      rw [List.append_eq_nil_iff] at e
      rw [e.1] at h3
      simp at h3
  have hleft : leftP notes body [] ≤ 200 := by
    have := leftP_bd notes body 12 fun n => by
      cases hx : notes[n]? with
      | none => simp
      | some l => simpa using (hnm l (List.mem_of_getElem? hx)).2
    rw [hrl] at this
    have := ht.nn
    omega
  refine ⟨chkT_ok ht, ?_, ?_, ?_, ?_, ?_, ?_, ?_, ?_⟩ <;> rw [hl]
  · exact hc
  · exact hb0
  · exact hleft
  · intro x hx
    rw [hb] at hx
    obtain ⟨l, hl1, hx1⟩ := List.mem_flatten.1 hx
    have := setsP_small m 40 t.paras 0 (fun p hp => (ht.par.len p hp).2) l hl1 x hx1
    omega
  · intro l hl1 x hx
    rw [hn] at hl1
    have := setsP_small m 12 t.notes _ (fun p hp => (ht.len p hp).2) l hl1 x hx
    omega
  · intro x hx k hk
    have : k ∈ lrefs body := List.mem_flatMap.2 ⟨x, hx, hk⟩
    rw [hr] at this
    obtain ⟨i, hi, rfl⟩ := List.mem_map.1 this
    have := List.mem_range.1 hi
    simp only
    omega
  · have := ht.nn
    simp only; omega
  · unfold textP
    rw [if_neg (by rw [hl]; simp), hl]
end Go.Proofs.YtdbnddmncbjobaaGreatDoor

/- page.Text: walked. -/
namespace Go.Proofs.YtdbnddmncbjobaaGreatDoor
open Go Go.RowKit

set_option maxHeartbeats 4000000 in
set_option maxRecDepth 100000 in
theorem ptext_any (P : Nat → Prop) (w : World) (t : Tx) (m h : Int) (A A' : Option Addr) (n n' c c' : Nat) (h1 : kWs.row w P A n t.paras) (h2 : kWs.row w P A' n' t.notes) (hT : TxP t m h) (hm0 : 500 ≤ m) (hm : m ≤ 2000) (hL : EnvW w) :
    Calls Tryz.prog 127 #[.agg #[.slice A n c, .slice A' n' c'], .int .i64 m, .int .i64 h] w (fun e w' => ∃ A1 c1, e = .returned (.tuple #[.slice A1 (textP t m h).2.length c1, .int .i64 0]) ∧
      kPg.own 84 w' w.heap.size (fun j => w.heap.size ≤ j) (.slice A1 (textP t m h).2.length c1) ((textP t m h).2.map pgOf) ∧ Ext w w') := by
  have HLI := Lib.hid (fun X (hX : Ext w X) => lines_any P X t m A A' n n' c c' (Lay.row_ext h1 hX) (Lay.row_ext h2 hX) hT.chk hm0 hm (hL.ext hX))
  have HT := Lib.hid hT
  obtain ⟨body, hb⟩ : ∃ b, (linesT t m).2.1 = b := ⟨_, rfl⟩
  obtain ⟨notes, hn⟩ : ∃ b, (linesT t m).2.2 = b := ⟨_, rfl⟩
  have HB := Lib.hid hb
  have HN := Lib.hid hn
  simp only [hb, hn] at HLI
  clear h1 h2 hT hL hb hn
  go_enter Tryz.func127, Tryz.ntmps127
  go_wp2_with fail
  refine (HLI.out _ ((Ext.refl w).alloc _)).mono ?_
  rintro e w1 ⟨A1, c1, A2, c2, rfl, ho1, ho2, hx1⟩
  have HX1 := Lib.hid (((Ext.refl w).alloc (.cells #[.slice A n c, .slice A' n' c'] 53)).trans hx1)
  obtain ⟨Ab, cb, e1, hcb, hr1⟩ := own_rowN (Q := fun j => w.heap.size ≤ j) ho1 (fun j hj _ => by rw [World.size_alloc] at hj; omega) (fun j hj _ => by rw [World.size_alloc] at hj; omega)
  obtain ⟨An, cn, e2, _, hr2⟩ := own_rowN (Q := fun j => w.heap.size ≤ j) ho2 (fun j hj _ => by rw [World.size_alloc] at hj; omega) (fun j hj _ => by rw [World.size_alloc] at hj; omega)
  have e1a : A1 = Ab := by injection e1
  have e1c : c1 = cb := by injection e1
  have e2a : A2 = An := by injection e2
  rw [← e1a] at hr1
  rw [← e2a] at hr2
  rw [← e1c] at hcb
  clear e1 e2 e1a e1c e2a ho1 ho2
  have hbl : 0 < body.length := List.length_pos_iff.2 (by rw [← HB.out]; exact HT.out.ne)
  obtain ⟨x0, hx0⟩ : ∃ x, body[0]? = some x := ⟨_, List.getElem?_eq_getElem hbl⟩
  obtain ⟨b0, o0, cs, rfl, _, _, _, _⟩ := Lay.row_at hr1 hx0
  have HPS := Lib.hid (pset_any (fun j => w.heap.size ≤ j) w1 b0 o0 body.length c1 notes.length c2 200 A2 body notes h hr1 hcb hr2 (by have := HT.out.pg; rwa [HB.out, HN.out] at this) (by have := HT.out.left; rwa [HB.out, HN.out] at this) (by omega) (by have := HT.out.nn; rw [HN.out] at this; omega) (by have := HT.out.lnb; rwa [HB.out] at this) (by have := HT.out.lnn; rwa [HN.out] at this) (by have := HT.out.nts; rwa [HB.out, HN.out] at this))
  have HEQ := Lib.hid (show (setPg body notes h).2 = (textP t m h).2 by rw [HT.out.eq, HB.out, HN.out])
  rw [HEQ.out] at HPS
  clear hr1 hr2 hx0 hx1
  go_wp2_with fail
  refine HPS.out.mono ?_
  rintro e w2 ⟨A3, c3, rfl, ho3, hx3⟩
  have HO3 := Lib.hid ho3
  have HX3 := Lib.hid (HX1.out.trans hx3)
  clear ho3 hx3
  have hw1 := HX1.out.lt
  go_wp2_with fail
  go_ret2
  exact ⟨A3, c3, rfl, own_low HO3.out hw1, HX3.out⟩
end Go.Proofs.YtdbnddmncbjobaaGreatDoor

/- A range over a function whose values lie in memory: the law of the statement, with a word about the values that come. -/
namespace Go.Proofs.YtdbnddmncbjobaaGreatDoor
open Go Go.RowKit

/-- The blocks of Q' are those of Q, new ones, and the block b. -/
def Grow (b : Nat) (Q Q' : Nat → Prop) (A : World) : Prop := ∀ j, Q' j → Q j ∨ A.heap.size ≤ j ∨ j = b
/-- What holds abides a step of the iterator's, which turns its own block b alone. -/
def AbMv {β : Type} (b : Nat) (J : β → (Nat → Prop) → World → Prop) : Prop := ∀ s Q Q' A B, J s Q A → Mv b A B → Grow b Q Q' A → J s Q' B
/-- An iterator over values that lie in memory: those that come lie so (Rp) in blocks of a set Q, which the rounds leave as they are. -/
def RSeq {α : Type} (F : Fence) (n : Nat) (P : Program) (g : Nat) (lb : Array Value) (encs : α → Array Value) (Rp : (Nat → Prop) → α → World → Prop) (S Sp : List α → Prop) (Q0 : Nat → Prop) (w : World) : Prop :=
  ∀ (l : Nat) (J Jx : List α → (Nat → Prop) → World → Prop) (W : World), w.heap.size ≤ W.heap.size → (∀ j, j < w.heap.size → W.heap[j]? = w.heap[j]?) → Ext w W → AbMv W.heap.size J → AbMv W.heap.size Jx →
    (∀ pre x Q W1, J pre Q W1 → Rp (fun j => (Q j ∧ j ≠ W.heap.size) ∧ w.heap.size ≤ j) x W1 → (∀ j, Q j → j < W1.heap.size) → W.heap.size < W1.heap.size → Sp (pre ++ [x]) → YieldAt F (n - 1) P l (encs x) W1 fun e W' =>
      (e = .returned (.bool true) ∧ J (pre ++ [x]) Q W' ∧ ∀ j, Q j → W'.heap[j]? = W1.heap[j]?) ∨ (e = .returned (.bool false) ∧ Jx (pre ++ [x]) Q W')) →
    J [] Q0 W →
    CallsIn F n P g (#[.func (.yield l) #[] #[]] ++ lb) W fun e W' => (∃ v, e = .returned v) ∧ ((∃ xs Q, S xs ∧ J xs Q W') ∨ (∃ pre Q, Sp pre ∧ Jx pre Q W'))
/-- How the body of a round may be left: the two blocks of the loop's book-keeping lie as they lay. -/
def rgPost {α : Type} (l D : Nat) (Q : Nat → Prop) (I : List α → (Nat → Prop) → World → Prop) (Ix : Code → List α → (Nat → Prop) → World → Prop) (xs : List α) (W : World) : Exit → Act → World → Prop
  | .normal, _, W' => (W'.heap[l]? = W.heap[l]? ∧ W'.heap[D]? = W.heap[D]?) ∧ (∀ j, Q j → W'.heap[j]? = W.heap[j]?) ∧ I xs Q W'
  | .ret, _, W' => (W'.heap[l]? = W.heap[l]? ∧ W'.heap[D]? = W.heap[D]?) ∧ Ix .ret xs Q W'
  | .exit id, _, W' => (W'.heap[l]? = W.heap[l]? ∧ W'.heap[D]? = W.heap[D]?) ∧ Ix (.exit id) xs Q W'
  | .goto t, _, W' => (W'.heap[l]? = W.heap[l]? ∧ W'.heap[D]? = W.heap[D]?) ∧ Ix (.goto t) xs Q W'
  | .panic _, _, _ => False
  | .outgrown, _, _ => False
theorem Mv.blk {b k : Nat} {A B : World} {o : Obj} (h : Mv b A B) (hk : k ≠ b) (ho : A.heap[k]? = some o) : B.heap[k]? = some o := (h.keep k hk (Array.getElem?_eq_some_iff.1 ho).1).trans ho
end Go.Proofs.YtdbnddmncbjobaaGreatDoor

/- book.all: the iterator over a book's pages: its make, and what it owes. -/
namespace Go.Proofs.YtdbnddmncbjobaaGreatDoor
open Go Go.RowKit

/-- A page with its two rows' places. -/
abbrev PgV := Pg × (Option Addr × Nat × Nat) × (Option Addr × Nat × Nat)
def pgEnc (x : PgV) : Array Value := #[.agg #[.int .i64 x.1.num, .int .i64 x.1.suf, .int .i64 x.1.ent, .int .i64 x.1.ver, .slice x.2.1.1 x.2.1.2.1 x.2.1.2.2, .slice x.2.2.1 x.2.2.2.1 x.2.2.2.2]]
/-- Such a page lies in blocks of Q. -/
def pgRp (Q : Nat → Prop) (x : PgV) (W : World) : Prop := x.2.1.2.1 ≤ x.2.1.2.2 ∧ x.2.2.2.1 ≤ x.2.2.2.2 ∧ kLn.row W Q x.2.1.1 x.2.1.2.1 x.1.body ∧ kLn.row W Q x.2.2.1 x.2.2.2.1 x.1.nts ∧ x.1.body.length ≤ 1000 ∧ x.1.nts.length ≤ 1000
set_option maxHeartbeats 2000000 in
set_option maxRecDepth 100000 in
theorem all_any (w : World) (m h : Int) (A : Option Addr) (n c : Nat) :
    Calls Tryz.prog 73 #[.agg #[.int .i64 m, .int .i64 h, .slice A n c]] w (fun e w' => e = .returned (.func (.func 126) #[] #[.pointer (some ⟨w.heap.size, 0, none⟩)]) ∧ w' = w.alloc (.cells #[.int .i64 m, .int .i64 h, .slice A n c] 27)) := by
  go_enter Tryz.func73, Tryz.ntmps73
  go_wp2_with fail
  go_ret
  exact ⟨rfl, rfl⟩
/-- A round that leaves the blocks of Q, the last block of all being one: the heap has not shrunk. -/
theorem kept_size {Q : Nat → Prop} {W W' : World} (h : ∀ j, Q j → W'.heap[j]? = W.heap[j]?) (hl : Q (W.heap.size - 1)) (h0 : 0 < W.heap.size) : W.heap.size ≤ W'.heap.size := by
  have h1 := (h _ hl).trans (Array.getElem?_eq_getElem (xs := W.heap) (i := W.heap.size - 1) (by omega))
  have := (Array.getElem?_eq_some_iff.1 h1).1
  omega
/-- The table of widths lies in block 4 alone. -/
theorem EnvW.blk {w W : World} (h : EnvW w) (hb : W.heap[4]? = w.heap[4]?) : EnvW W := by
  intro W' hx
  have h1 := h w (Ext.refl w)
  have hg : Tryz.prog.globalNamed "rollbook/glyph.widths" = some 4 := by kernel_rfl
  unfold World.var? at h1 ⊢
  rw [hg] at h1 ⊢
  simp only [Option.bind_some] at h1 ⊢
  have hlt : 4 < W.heap.size := by
    rcases Nat.lt_or_ge 4 W.heap.size with h9 | h9
    · exact h9
    · rw [← hb, Array.getElem?_eq_none h9] at h1
      exact absurd h1 (by simp)
  rw [hx.block 4 hlt, hb]
  exact h1
/-- What holds between two steps of the iterator's: pre has come, in blocks of Q; the book; its own count of the pages in block B. -/
structure ItC (J : List PgV → (Nat → Prop) → World → Prop) (Q0 : Nat → Prop) (B bb : Nat) (b : Bk) (A : Option Addr) (N c : Nat) (num suf : Int) (pre : List PgV) (Q : Nat → Prop) (wr : World) : Prop where
  j : J pre Q wr
  q0 : ∀ j, Q0 j → Q j
  qB : Q B
  lt : ∀ j, Q j → j < wr.heap.size
  hb : wr.heap[bb]? = some (.cells #[.int .i64 b.ms, .int .i64 b.ht, .slice A N c] 27 (0, 0))
  hB : wr.heap[B]? = some (.cells #[.int .i64 num, .int .i64 suf] 64 (0, 0))
  row : kSe.row wr Q0 A N b.secs
  env : EnvW wr
/-- The blocks of Q, and those made since. -/
def Qn (Q : Nat → Prop) (W W' : World) : Nat → Prop := fun j => Q j ∨ (W.heap.size ≤ j ∧ j < W'.heap.size)
theorem ItC.ext {J : List PgV → (Nat → Prop) → World → Prop} {Q0 Q : Nat → Prop} {B bb N c : Nat} {b : Bk} {A : Option Addr} {num suf : Int} {pre : List PgV} {wr wr' : World} (hJ : AbMv B J)
    (h : ItC J Q0 B bb b A N c num suf pre Q wr) (hx : Ext wr wr') : ItC J Q0 B bb b A N c num suf pre (Qn Q wr wr') wr' :=
  ⟨hJ _ _ _ _ _ h.j (Mv.of_ext hx) (fun j hj => by rcases hj with hj | hj; exact .inl hj; exact .inr (.inl hj.1)), fun j hj => .inl (h.q0 j hj), .inl h.qB,
    fun j hj => by rcases hj with hj | hj; exact Nat.lt_of_lt_of_le (h.lt j hj) hx.lt; exact hj.2,
    (hx.block _ (lt_of_block h.hb)).trans h.hb, (hx.block _ (lt_of_block h.hB)).trans h.hB, Lay.row_ext h.row hx, h.env.ext hx⟩
theorem ItC.set {J : List PgV → (Nat → Prop) → World → Prop} {Q0 Q : Nat → Prop} {B bb N c : Nat} {b : Bk} {A : Option Addr} {num suf num' suf' : Int} {pre : List PgV} {wr wr' : World} (hJ : AbMv B J)
    (h : ItC J Q0 B bb b A N c num suf pre Q wr) (hm : Mv B wr wr') (hs : wr'.heap.size = wr.heap.size) (hB : wr'.heap[B]? = some (.cells #[.int .i64 num', .int .i64 suf'] 64 (0, 0))) (hbb : bb ≠ B) (h4 : 4 < B) (hQ : ∀ j, Q0 j → j ≠ B) :
    ItC J Q0 B bb b A N c num' suf' pre Q wr' :=
  ⟨hJ _ _ _ _ _ h.j hm (fun j hj => .inl hj), h.q0, h.qB, fun j hj => by rw [hs]; exact h.lt j hj, (hm.keep bb hbb (lt_of_block h.hb)).trans h.hb, hB,
    Lay.row_keep h.row (by omega) fun j hj hl => hm.keep j (hQ j hj) hl, h.env.blk (hm.keep 4 (by omega) (Nat.lt_trans h4 (lt_of_block h.hB)))⟩
/-- Both: new blocks, turned as one likes, and the count. -/
theorem ItC.mv {J : List PgV → (Nat → Prop) → World → Prop} {Q0 Q : Nat → Prop} {B bb N c : Nat} {b : Bk} {A : Option Addr} {num suf num' suf' : Int} {pre : List PgV} {wr wr' : World} (hJ : AbMv B J)
    (h : ItC J Q0 B bb b A N c num suf pre Q wr) (hm : Mv B wr wr') (hs : wr.heap.size ≤ wr'.heap.size) (hB : wr'.heap[B]? = some (.cells #[.int .i64 num', .int .i64 suf'] 64 (0, 0))) (hbb : bb ≠ B) (h4 : 4 < B) (hQ : ∀ j, Q0 j → j ≠ B) :
    ItC J Q0 B bb b A N c num' suf' pre (Qn Q wr wr') wr' :=
  ⟨hJ _ _ _ _ _ h.j hm (fun j hj => by rcases hj with hj | hj; exact .inl hj; exact .inr (.inl hj.1)), fun j hj => .inl (h.q0 j hj), .inl h.qB,
    fun j hj => by rcases hj with hj | hj; exact Nat.lt_of_lt_of_le (h.lt j hj) hs; exact hj.2,
    (hm.keep bb hbb (lt_of_block h.hb)).trans h.hb, hB, Lay.row_keep h.row hs fun j hj hl => hm.keep j (hQ j hj) hl, h.env.blk (hm.keep 4 (by omega) (Nat.lt_trans h4 (lt_of_block h.hB)))⟩
theorem ItC.round {J : List PgV → (Nat → Prop) → World → Prop} {Q0 Q : Nat → Prop} {B bb N c : Nat} {b : Bk} {A : Option Addr} {num suf : Int} {pre pre' : List PgV} {wr wr' : World}
    (h : ItC J Q0 B bb b A N c num suf pre Q wr) (hj : J pre' Q wr') (hk : ∀ j, Q j → wr'.heap[j]? = wr.heap[j]?) (hl : Q (wr.heap.size - 1)) (hbb : Q0 bb) (h4 : Q0 4) :
    ItC J Q0 B bb b A N c num suf pre' Q wr' := by
  have hsz := kept_size hk hl (Nat.lt_of_le_of_lt (Nat.zero_le _) (h.lt _ hl))
  exact ⟨hj, h.q0, h.qB, fun j hq => Nat.lt_of_lt_of_le (h.lt j hq) hsz, (hk bb (h.q0 _ hbb)).trans h.hb, (hk _ h.qB).trans h.hB, Lay.row_keep h.row hsz fun j hq _ => hk j (h.q0 j hq), h.env.blk (hk 4 (h.q0 _ h4))⟩
end Go.Proofs.YtdbnddmncbjobaaGreatDoor

/- The iterator's states, and its step. -/
namespace Go.Proofs.YtdbnddmncbjobaaGreatDoor
open Go Go.RowKit

theorem TxP.len {t : Tx} {m h : Int} (hT : TxP t m h) : (textP t m h).2.length ≤ 200 := by
  rw [hT.eq]
  unfold setPg
  rw [if_neg (by rw [hT.pg]; simp)]
  exact Nat.le_trans (setF_len _ _ _ _ _) hT.left
/-- A book of which every text has pages. -/
structure BkI (b : Bk) : Prop where
  s : BkS b.secs
  m0 : 500 ≤ b.ms
  m1 : b.ms ≤ 2000
  h : 0 ≤ b.ht ∧ b.ht ≤ 100
  vs : ∀ x ∈ b.secs, x.vers.length = x.texts.length
  tx : ∀ x ∈ b.secs, ∀ t ∈ x.texts, TxP t b.ms b.ht
  np : (pagesB b).length ≤ 1000000
  ln : ∀ x ∈ b.secs, ∀ t ∈ x.texts, ∀ p ∈ (textP t b.ms b.ht).2, p.1.length ≤ 1000 ∧ p.2.length ≤ 1000
/-- The counts of the pages that have come. -/
def Bd (num suf : Int) (pre : List PgV) : Prop := 0 ≤ num ∧ num ≤ pre.length ∧ 0 ≤ suf ∧ suf ≤ pre.length
def ItO (J : List PgV → (Nat → Prop) → World → Prop) (Q0 : Nat → Prop) (B bb : Nat) (b : Bk) (A : Option Addr) (N c : Nat) (s16 : Value) (w' : World) : Prop :=
  ∃ (i : Nat) (num suf : Int) (pre : List PgV) (Q : Nat → Prop), i ≤ b.secs.length ∧ s16 = .int .i64 i ∧ ItC J Q0 B bb b A N c num suf pre Q w' ∧ Bd num suf pre ∧ pre.map (·.1) ++ pagesS b.ms b.ht (b.secs.drop i) num = pagesB b
theorem pagesV_nil (m h ent : Int) (vs : List Int) (f : Bool) (n s : Int) : pagesV m h ent vs [] f n s = ([], n) := by cases vs <;> rfl
def ItM (J : List PgV → (Nat → Prop) → World → Prop) (Q0 : Nat → Prop) (B bb : Nat) (b : Bk) (A : Option Addr) (N c : Nat) (b5 : Nat) (x : Se) (A1 : Option Addr) (n1 c1 : Nat) (A2 : Option Addr) (n2 c2 : Nat) (rest : List Se) (s24 : Value) (w' : World) : Prop :=
  ∃ (k : Nat) (num suf : Int) (pre : List PgV) (Q : Nat → Prop), k ≤ x.texts.length ∧ s24 = .int .i64 k ∧ ItC J Q0 B bb b A N c num suf pre Q w' ∧ Bd num suf pre ∧
    Q b5 ∧ w'.heap[b5]? = some (.cells #[.int .i64 x.ent, .bool x.fz, .slice A1 n1 c1, .slice A2 n2 c2] 46 (0, 0)) ∧ kInt.row w' Q0 A1 n1 x.vers ∧ kTx.row w' Q0 A2 n2 x.texts ∧
    pre.map (·.1) ++ ((pagesV b.ms b.ht x.ent (x.vers.drop k) (x.texts.drop k) (decide (k = 0)) num suf).1 ++ pagesS b.ms b.ht rest (pagesV b.ms b.ht x.ent (x.vers.drop k) (x.texts.drop k) (decide (k = 0)) num suf).2) = pagesB b
def ItI (J : List PgV → (Nat → Prop) → World → Prop) (Q0 : Nat → Prop) (B bb : Nat) (b : Bk) (A : Option Addr) (N c : Nat) (b5 : Nat) (x : Se) (A1 : Option Addr) (n1 c1 : Nat) (A2 : Option Addr) (n2 c2 : Nat) (rest : List Se) (k : Nat) (v : Int) (pgs : List (List Ln × List Ln)) (A6 : Option Addr) (S0 : Nat) (s40 : Value) (w' : World) : Prop :=
  ∃ (p : Nat) (num suf : Int) (pre : List PgV) (Q : Nat → Prop), p ≤ pgs.length ∧ s40 = .int .i64 p ∧ ItC J Q0 B bb b A N c num suf pre Q w' ∧ Bd num suf pre ∧
    Q b5 ∧ w'.heap[b5]? = some (.cells #[.int .i64 x.ent, .bool x.fz, .slice A1 n1 c1, .slice A2 n2 c2] 46 (0, 0)) ∧ kInt.row w' Q0 A1 n1 x.vers ∧ kTx.row w' Q0 A2 n2 x.texts ∧ kPg.row w' (fun j => (Q j ∧ j ≠ b5 ∧ j ≠ B) ∧ S0 ≤ j) A6 pgs.length (pgs.map pgOf) ∧
    pre.map (·.1) ++ ((pagesT x.ent v (decide (k = 0)) (pgs.drop p) num suf).1 ++ ((pagesV b.ms b.ht x.ent (x.vers.drop (k + 1)) (x.texts.drop (k + 1)) false (pagesT x.ent v (decide (k = 0)) (pgs.drop p) num suf).2.1 (pagesT x.ent v (decide (k = 0)) (pgs.drop p) num suf).2.2).1 ++ pagesS b.ms b.ht rest (pagesV b.ms b.ht x.ent (x.vers.drop (k + 1)) (x.texts.drop (k + 1)) false (pagesT x.ent v (decide (k = 0)) (pgs.drop p) num suf).2.1 (pagesT x.ent v (decide (k = 0)) (pgs.drop p) num suf).2.2).2)) = pagesB b
/-- The step of a label. -/
def stN (k : Nat) (num : Int) : Int := if k = 0 then num + 1 else num
def stS (k : Nat) (suf : Int) : Int := if k = 0 then suf else suf + 1
theorem pagesT_step (ent v : Int) (k : Nat) {pgs : List (List Ln × List Ln)} {p : Nat} {pg : List Ln × List Ln} (hp : pgs[p]? = some pg) (n s : Int) :
    pagesT ent v (decide (k = 0)) (pgs.drop p) n s = (⟨stN k n, stS k s, ent, v, pg.1, pg.2⟩ :: (pagesT ent v (decide (k = 0)) (pgs.drop (p + 1)) (stN k n) (stS k s)).1, (pagesT ent v (decide (k = 0)) (pgs.drop (p + 1)) (stN k n) (stS k s)).2) := by
  rw [List.drop_eq_getElem_cons (List.getElem?_eq_some_iff.1 hp).1, (List.getElem?_eq_some_iff.1 hp).2]
  unfold stN stS
  by_cases hk : k = 0 <;> simp [pagesT, hk]
theorem itI_next {J : List PgV → (Nat → Prop) → World → Prop} {Q0 Q : Nat → Prop} {B bb N c b5 n1 c1 n2 c2 k p S0 : Nat} {b : Bk} {A A1 A2 A6 : Option Addr} {num suf v : Int} {pre : List PgV} {x : Se} {rest : List Se} {pgs : List (List Ln × List Ln)} {pg : List Ln × List Ln} {wi w9 W2 : World} {pv : PgV}
    (hpi : pgs[p]? = some pg) (hbb : Q0 bb) (h4 : Q0 4) (hC : ItC J Q0 B bb b A N c (stN k num) (stS k suf) pre (Qn Q wi w9) w9) (hl : Qn Q wi w9 (w9.heap.size - 1)) (hBd : Bd num suf pre) (hq5 : Q b5)
    (hB5 : w9.heap[b5]? = some (.cells #[.int .i64 x.ent, .bool x.fz, .slice A1 n1 c1, .slice A2 n2 c2] 46 (0, 0))) (hR1 : kInt.row w9 Q0 A1 n1 x.vers) (hR2 : kTx.row w9 Q0 A2 n2 x.texts) (hRP : kPg.row w9 (fun j => (Q j ∧ j ≠ b5 ∧ j ≠ B) ∧ S0 ≤ j) A6 pgs.length (pgs.map pgOf))
    (hS : pre.map (·.1) ++ ((pagesT x.ent v (decide (k = 0)) (pgs.drop p) num suf).1 ++ ((pagesV b.ms b.ht x.ent (x.vers.drop (k + 1)) (x.texts.drop (k + 1)) false (pagesT x.ent v (decide (k = 0)) (pgs.drop p) num suf).2.1 (pagesT x.ent v (decide (k = 0)) (pgs.drop p) num suf).2.2).1 ++ pagesS b.ms b.ht rest (pagesV b.ms b.ht x.ent (x.vers.drop (k + 1)) (x.texts.drop (k + 1)) false (pagesT x.ent v (decide (k = 0)) (pgs.drop p) num suf).2.1 (pagesT x.ent v (decide (k = 0)) (pgs.drop p) num suf).2.2).2)) = pagesB b)
    (hpv : pv.1 = ⟨stN k num, stS k suf, x.ent, v, pg.1, pg.2⟩) (hJ : J (pre ++ [pv]) (Qn Q wi w9) W2) (hk : ∀ j, Qn Q wi w9 j → W2.heap[j]? = w9.heap[j]?) :
    ItI J Q0 B bb b A N c b5 x A1 n1 c1 A2 n2 c2 rest k v pgs A6 S0 (.int .i64 ((p : Int) + 1)) W2 := by
  have hC2 := hC.round hJ hk hl hbb h4
  have hsz := kept_size hk hl (Nat.lt_of_le_of_lt (Nat.zero_le _) (hC.lt _ hl))
  obtain ⟨h0, h1, h2, h3⟩ := hBd
  refine ⟨p + 1, stN k num, stS k suf, pre ++ [pv], Qn Q wi w9, (List.getElem?_eq_some_iff.1 hpi).1, by simp, hC2, ⟨?_, ?_, ?_, ?_⟩, .inl hq5, (hk b5 (.inl hq5)).trans hB5, Lay.row_keep hR1 hsz fun j hj _ => hk j (hC.q0 j hj), Lay.row_keep hR2 hsz fun j hj _ => hk j (hC.q0 j hj), ?_, ?_⟩
  · unfold stN; split <;> omega
  · unfold stN; simp only [List.length_append, List.length_cons, List.length_nil]; split <;> omega
  · unfold stS; split <;> omega
  · unfold stS; simp only [List.length_append, List.length_cons, List.length_nil]; split <;> omega
  · exact Lay.row_mono (Lay.row_keep hRP hsz fun j hj _ => hk j (.inl hj.1.1)) fun j hj _ => ⟨⟨.inl hj.1.1, hj.1.2⟩, hj.2⟩
  · rw [pagesT_step x.ent v k hpi] at hS
    rw [← hS, List.map_append, List.map_cons, List.map_nil, hpv, List.append_assoc]
    rfl
theorem pre_cons {γ : Type} (X : List γ) (p : γ) (R Y : List γ) : X ++ [p] <+: X ++ ((p :: R) ++ Y) := ⟨R ++ Y, by simp⟩
theorem itI_stop {b : Bk} {k p : Nat} {num suf v : Int} {pre : List PgV} {x : Se} {rest : List Se} {pgs : List (List Ln × List Ln)} {pg : List Ln × List Ln} {pv : PgV} (hpi : pgs[p]? = some pg)
    (hS : pre.map (·.1) ++ ((pagesT x.ent v (decide (k = 0)) (pgs.drop p) num suf).1 ++ ((pagesV b.ms b.ht x.ent (x.vers.drop (k + 1)) (x.texts.drop (k + 1)) false (pagesT x.ent v (decide (k = 0)) (pgs.drop p) num suf).2.1 (pagesT x.ent v (decide (k = 0)) (pgs.drop p) num suf).2.2).1 ++ pagesS b.ms b.ht rest (pagesV b.ms b.ht x.ent (x.vers.drop (k + 1)) (x.texts.drop (k + 1)) false (pagesT x.ent v (decide (k = 0)) (pgs.drop p) num suf).2.1 (pagesT x.ent v (decide (k = 0)) (pgs.drop p) num suf).2.2).2)) = pagesB b)
    (hpv : pv.1 = ⟨stN k num, stS k suf, x.ent, v, pg.1, pg.2⟩) : (pre ++ [pv]).map (·.1) <+: pagesB b := by
  rw [pagesT_step x.ent v k hpi] at hS
  rw [← hS, List.map_append, List.map_cons, List.map_nil, hpv]
  exact pre_cons _ _ _ _
end Go.Proofs.YtdbnddmncbjobaaGreatDoor

/- book.all$1: walked (under way). -/
namespace Go.Proofs.YtdbnddmncbjobaaGreatDoor
open Go Go.RowKit

set_option maxHeartbeats 8000000 in
set_option maxRecDepth 100000 in
theorem all1_seq (n : Nat) (w : World) (b : Bk) (bb : Nat) (A : Option Addr) (N c : Nat) (Q0 : Nat → Prop) (hb : BkI b) (hQl : ∀ j, Q0 j → j < w.heap.size) (h4 : Q0 4) (hbb : Q0 bb) (hB : w.heap[bb]? = some (.cells #[.int .i64 b.ms, .int .i64 b.ht, .slice A N c] 27 (0, 0))) (hr : kSe.row w Q0 A N b.secs) (hL : EnvW w) :
    RSeq Fence.wide n Tryz.prog 126 #[.pointer (some ⟨bb, 0, none⟩)] pgEnc pgRp (fun xs => xs.map (·.1) = pagesB b) (fun pre => pre.map (·.1) <+: pagesB b) Q0 w := by
  intro l J Jx W hws hwk hx hJ hJx hY hj0
  refine callsIn_wide.2 ?_
  have hN := Lay.row_len hr
  have hNb : N ≤ 1000000 := by have := hb.s.n; omega
  obtain ⟨B, hBs⟩ : ∃ B, W.heap.size = B := ⟨_, rfl⟩
  rw [hBs] at hJ hJx hY
  have HJ := Lib.hid hJ
  have HJX := Lib.hid hJx
  have HY := Lib.hid hY
  have HBI := Lib.hid hb
  have HQL := Lib.hid hQl
  have HBS := Lib.hid hBs
  have HN := Lib.hid hN
  have HI0 := Lib.hid (fun (w3 : World) (hx3 : Ext W w3) (hB3 : w3.heap[B]? = some (.cells #[.int .i64 0, .int .i64 0] 64 (0, 0))) => show ItC J Q0 B bb b A N c 0 0 [] (Qn Q0 W w3) w3 from
    ⟨hJ _ _ _ _ _ hj0 (Mv.of_ext hx3) (fun j hj => by rcases hj with hj | hj; exact .inl hj; exact .inr (.inl hj.1)), fun j hj => .inl hj, .inr ⟨by omega, lt_of_block hB3⟩,
      fun j hj => by rcases hj with hj | hj; exact Nat.lt_of_lt_of_le (hQl j hj) (Nat.le_trans hws hx3.lt); exact hj.2,
      ((hx.trans hx3).block _ (lt_of_block hB)).trans hB, hB3, Lay.row_ext hr (hx.trans hx3), hL.ext (hx.trans hx3)⟩)
  have hbq : bb < W.heap.size := Nat.lt_of_lt_of_le (lt_of_block hB) hws
  have b2 := cell_of ((hx.block _ (lt_of_block hB)).trans hB) (i := 2) rfl
  clear hJ hJx hY hb hr hL hx hwk hj0 hN hB
  show Calls Tryz.prog 126 #[.func (.yield l) #[] #[], .pointer (some ⟨bb, 0, none⟩)] W _
  go_enter Tryz.func126, Tryz.ntmps126
  go_upto_region 1 with (fail)
  obtain ⟨w3, hw3⟩ : ∃ w3, W.alloc (.cells #[.int .i64 0, .int .i64 0] 64) = w3 := ⟨_, rfl⟩
  rw [hw3]
  have HIC := Lib.hid (HI0.out w3 (by rw [← hw3]; exact (Ext.refl W).alloc _) (by rw [← hw3, ← hBs]; exact heap_alloc_new W _))
  have b2' := cell_of HIC.out.hb (i := 2) rfl
  clear hw3 b2 HI0
  go_wp2_with fail
  go_loopw [5, 6, 7, 8, 9, 11, 16, 24, 40] (fun _ _ _ _ _ _ s16 _ _ w' => ItO J Q0 B bb b A N c s16 w') (fun _ _ _ _ _ _ s16 _ _ _ => toM N s16)
  case atStart => exact ⟨0, 0, 0, [], _, by omega, rfl, HIC.out, ⟨by omega, by simp, by omega, by simp⟩, rfl⟩
  case round =>
    obtain ⟨i, num, suf, pre, Q, hi, rfl, hC, hBd, hS⟩ := hrel
    by_cases hlt : i < N
    case neg =>
      obtain rfl : N = i := by have := HN.out; omega
      have hni : ¬ ((N : Int) < (N : Int)) := by omega
      have HFI := Lib.hid (show ((∃ xs Q, xs.map (·.1) = pagesB b ∧ J xs Q wr) ∨ (∃ pre Q, pre.map (·.1) <+: pagesB b ∧ Jx pre Q wr)) by
        refine .inl ⟨pre, Q, ?_, hC.j⟩
        rw [List.drop_of_length_le (by have := HN.out; omega)] at hS
        simpa [pagesS] using hS)
      clear hS hC
      go_wp2_with fail
      go_end0
      rcases HFI.out with ⟨xs, q, h1, h2⟩ | ⟨xs, q, h1, h2⟩
      · exact ⟨⟨_, rfl⟩, .inl ⟨xs, h1, q, h2⟩⟩
      · exact ⟨⟨_, rfl⟩, .inr ⟨xs, h1, q, h2⟩⟩
    have hI : (i : Int) < (N : Int) := by omega
    obtain ⟨x, hxi⟩ : ∃ x, b.secs[i]? = some x := ⟨_, List.getElem?_eq_getElem (by have := HN.out; omega)⟩
    obtain ⟨bs, os, cs, rfl, hbs, hqs, hrep, hcs⟩ := Lay.row_at hC.row hxi
    obtain ⟨A1, n1, c1, A2, n2, c2, rfl, hn1, hn2, hr1, hr2⟩ := kSe_rep.1 hrep
    have e0 := hcs 0 _ rfl
    have e1 := hcs 1 _ rfl
    have e2 := hcs 2 _ rfl
    have e3 := hcs 3 _ rfl
    rw [kSe_sz] at e0 e1 e2 e3
    rw [Nat.add_zero] at e0
    have HC := Lib.hid hC
    have HS := Lib.hid hS
    have HXI := Lib.hid hxi
    have HR1 := Lib.hid hr1
    have HR2 := Lib.hid hr2
    clear hC hS hxi hr1 hr2 hcs hrep
    go_upto_region 4 with (fail)
    obtain ⟨b5, hb5⟩ : ∃ b5, wr.heap.size = b5 := ⟨_, rfl⟩
    obtain ⟨w4, hw4⟩ : ∃ w4, (wr.alloc (.cells #[.int .i64 x.ent, .bool x.fz, .slice A1 n1 c1, .slice A2 n2 c2] 46)).setCell ⟨B, 1, none⟩ (.int .i64 0) = w4 := ⟨_, rfl⟩
    have hBw : B < wr.heap.size := lt_of_block HC.out.hB
    have HB5 := Lib.hid (show w4.heap[b5]? = some (.cells #[.int .i64 x.ent, .bool x.fz, .slice A1 n1 c1, .slice A2 n2 c2] 46 (0, 0)) by
      rw [← hw4, ← hb5, heap_setCell_other _ ⟨B, 1, none⟩ _ _ (by show wr.heap.size ≠ B; omega)]
      exact heap_alloc_new wr _)
    have hxa : Ext wr (wr.alloc (.cells #[.int .i64 x.ent, .bool x.fz, .slice A1 n1 c1, .slice A2 n2 c2] 46)) := (Ext.refl wr).alloc _
    have hCa := HC.out.ext HJ.out hxa
    have HC4 := Lib.hid (show ItC J Q0 B bb b (some ⟨bs, os, none⟩) N c num 0 pre (Qn Q wr (wr.alloc (.cells #[.int .i64 x.ent, .bool x.fz, .slice A1 n1 c1, .slice A2 n2 c2] 46))) w4 from by
      rw [← hw4]
      refine hCa.set HJ.out (Mv.set _) (by simp) ?_ (by omega) (by have := HQL.out 4 h4; omega) (fun j hj => by have := HQL.out j hj; omega)
      rw [heap_setCell_same _ B 1 _ 64 _ hCa.hB]
      rfl)
    have HQ5 := Lib.hid (show Qn Q wr (wr.alloc (.cells #[.int .i64 x.ent, .bool x.fz, .slice A1 n1 c1, .slice A2 n2 c2] 46)) b5 from .inr ⟨by omega, by rw [World.size_alloc]; omega⟩)
    have y1 := cell_of hCa.hB (i := 1) rfl
    have y2 := frozen_of hCa.hB 1
    have y3 := cell_of HB5.out (i := 3) rfl
    rw [hb5]
    have HR1' := Lib.hid (Lay.row_keep HR1.out (by rw [← hw4]; simp) (W' := w4) fun j hj hl => by
      rw [← hw4, heap_setCell_other _ ⟨B, 1, none⟩ _ _ (by show j ≠ B; have := HQL.out j hj; omega)]
      exact hxa.block j hl)
    have HR2' := Lib.hid (Lay.row_keep HR2.out (by rw [← hw4]; simp) (W' := w4) fun j hj hl => by
      rw [← hw4, heap_setCell_other _ ⟨B, 1, none⟩ _ _ (by show j ≠ B; have := HQL.out j hj; omega)]
      exact hxa.block j hl)
    have HS4 := Lib.hid (show pre.map (·.1) ++ ((pagesV b.ms b.ht x.ent (x.vers.drop 0) (x.texts.drop 0) (decide ((0 : Nat) = 0)) num 0).1 ++ pagesS b.ms b.ht (b.secs.drop (i + 1)) (pagesV b.ms b.ht x.ent (x.vers.drop 0) (x.texts.drop 0) (decide ((0 : Nat) = 0)) num 0).2) = pagesB b by
      have h9 := HS.out
      rw [List.drop_eq_getElem_cons (by have := HN.out; omega), (List.getElem?_eq_some_iff.1 HXI.out).2, pagesS] at h9
      simpa using h9)
    have HL2 := Lib.hid (Lay.row_len HR2.out)
    have hn2b : n2 ≤ 1000000 := by have := HBI.out.s.nt x (List.mem_of_getElem? HXI.out); have := HL2.out; omega
    clear hxa hCa HR1 HR2 HS HC
    go_wp2_with fail
    go_loopw [6, 7, 8, 9, 11, 24, 40] (fun _ _ _ _ _ s24 _ w' => ItM J Q0 B bb b (some ⟨bs, os, none⟩) N c b5 x A1 n1 c1 A2 n2 c2 (b.secs.drop (i + 1)) s24 w') (fun _ _ _ _ _ s24 _ _ => toM n2 s24)
    case atStart => exact ⟨0, num, 0, pre, _, by omega, rfl, HC4.out, ⟨hBd.1, hBd.2.1, by omega, by omega⟩, HQ5.out, HB5.out, HR1'.out, HR2'.out, HS4.out⟩
    case round =>
      clear HC4 HB5 HQ5 HS4 HR1' HR2' hBw
      rename World => wm
      obtain ⟨k, num2, suf2, pre2, Q2, hk, rfl, hC, hBd2, hq5, hB5, hR1, hR2, hS⟩ := hrel
      by_cases hkt : k < n2
      case neg =>
        obtain rfl : n2 = k := by have := HL2.out; omega
        have hnk : ¬ ((n2 : Int) < (n2 : Int)) := by omega
        have HRL := Lib.hid (show ItO J Q0 B bb b (some ⟨bs, os, none⟩) N c (.int .i64 ((i : Int) + 1)) wm by
          refine ⟨i + 1, num2, suf2, pre2, Q2, by have := HN.out; omega, by simp, hC, hBd2, ?_⟩
          rw [List.drop_of_length_le (l := x.texts) (by have := HL2.out; omega), pagesV_nil] at hS
          simpa using hS)
        clear hC hS hR1 hR2 hB5
        go_wp2_with fail
        go_roundw
        case rel => exact HRL.out
        case measure => simp only [toM]; omega
      have hK : (k : Int) < (n2 : Int) := by omega
      obtain ⟨t, hti⟩ : ∃ t, x.texts[k]? = some t := ⟨_, List.getElem?_eq_getElem (by have := HL2.out; omega)⟩
      obtain ⟨bt, ot, ct, rfl, hbt, hqt, hrt, hct⟩ := Lay.row_at hR2 hti
      obtain ⟨A3, n3, c3, A4, n4, c4, rfl, hn3, hn4, hr3, hr4⟩ := kTx_rep.1 hrt
      have g0 := hct 0 _ rfl
      have g1 := hct 1 _ rfl
      rw [kTx_sz] at g0 g1
      rw [Nat.add_zero] at g0
      obtain ⟨b7, hb7⟩ : ∃ b7, wm.heap.size = b7 := ⟨_, rfl⟩
      obtain ⟨w5, hw5⟩ : ∃ w5, wm.alloc (.cells #[.slice A3 n3 c3, .slice A4 n4 c4] 53) = w5 := ⟨_, rfl⟩
      have hx5 : Ext wm w5 := by rw [← hw5]; exact (Ext.refl wm).alloc _
      have HX5 := Lib.hid hx5
      have HPT := Lib.hid (ptext_any Q0 w5 t b.ms b.ht A3 A4 n3 n4 c3 c4 (Lay.row_ext hr3 hx5) (Lay.row_ext hr4 hx5) (HBI.out.tx x (List.mem_of_getElem? HXI.out) t (List.mem_of_getElem? hti)) HBI.out.m0 HBI.out.m1 (hC.env.ext hx5))
      have hB7 : w5.heap[b7]? = some (.cells #[.slice A3 n3 c3, .slice A4 n4 c4] 53 (0, 0)) := by
        rw [← hw5, ← hb7]
        exact heap_alloc_new wm _
      have z0 := cell_of hB7 (i := 0) rfl
      have z1 := cell_of hB7 (i := 1) rfl
      have z2 := cell_of ((hx5.block _ (lt_of_block hC.hb)).trans hC.hb) (i := 0) rfl
      have z3 := cell_of ((hx5.block _ (lt_of_block hC.hb)).trans hC.hb) (i := 1) rfl
      have HC := Lib.hid hC
      have HS := Lib.hid hS
      have HR1 := Lib.hid hR1
      have HR2 := Lib.hid hR2
      have HTI := Lib.hid hti
      have HB5 := Lib.hid hB5
      clear hC hS hR1 hR2 hti hr3 hr4 hrt hct hB5 hx5 hB7
      obtain ⟨pgs, hpg⟩ : ∃ pgs, (textP t b.ms b.ht).2 = pgs := ⟨_, rfl⟩
      rw [hpg] at HPT
      have hpb : pgs.length ≤ 200 := by rw [← hpg]; exact (HBI.out.tx x (List.mem_of_getElem? HXI.out) t (List.mem_of_getElem? HTI.out)).len
      have HLB := Lib.hid (show ∀ p ∈ pgs, p.1.length ≤ 1000 ∧ p.2.length ≤ 1000 from fun p hp => HBI.out.ln x (List.mem_of_getElem? HXI.out) t (List.mem_of_getElem? HTI.out) p (by rw [hpg]; exact hp))
      go_upto_region 8 with (fail)
      clear hw5 hb7
      go_wp2_with (first | (go_at_call 127; refine (HPT.out).mono ?_; rintro e w6 ⟨A6, c6, rfl, ho6, hx6⟩))
      obtain ⟨v, hvi⟩ : ∃ v, x.vers[k]? = some v := ⟨_, List.getElem?_eq_getElem (by have := HBI.out.vs x (List.mem_of_getElem? HXI.out); have := HL2.out; omega)⟩
      have hxm6 : Ext wm w6 := HX5.out.trans hx6
      have HI6 := Lib.hid (show ItI J Q0 B bb b (some ⟨bs, os, none⟩) N c b5 x A1 n1 c1 (some ⟨bt, ot, none⟩) n2 c2 (b.secs.drop (i + 1)) k v pgs A6 w.heap.size (.int .i64 ((0 : Nat) : Int)) w6 by
        refine ⟨0, num2, suf2, pre2, Qn Q2 wm w6, by omega, rfl, HC.out.ext HJ.out hxm6, hBd2, .inl hq5, (hxm6.block _ (lt_of_block HB5.out)).trans HB5.out, Lay.row_ext HR1.out hxm6, Lay.row_ext HR2.out hxm6, ?_, ?_⟩
        · obtain ⟨A9, c9, e9, _, hr9⟩ := own_rowN (Q := fun j => (Qn Q2 wm w6 j ∧ j ≠ b5 ∧ j ≠ B) ∧ w.heap.size ≤ j) ho6 (fun j hj hl => by
            have h1 := HX5.out.lt; have h2 := lt_of_block HB5.out; have h3 := lt_of_block HC.out.hB
            exact ⟨⟨.inr ⟨by omega, hl⟩, by omega, by omega⟩, by omega⟩) (fun j hj hl => by
            have h1 := HX5.out.lt; have h2 := lt_of_block HB5.out; have h3 := lt_of_block HC.out.hB
            exact ⟨⟨.inr ⟨by omega, hl⟩, by omega, by omega⟩, by omega⟩)
          obtain ⟨e1, _, _⟩ := Value.slice.inj e9
          rw [e1]
          rw [List.length_map] at hr9
          exact hr9
        · have h9 := HS.out
          rw [List.drop_eq_getElem_cons (l := x.texts) (by have := HL2.out; omega), (List.getElem?_eq_some_iff.1 HTI.out).2, List.drop_eq_getElem_cons (l := x.vers) (List.getElem?_eq_some_iff.1 hvi).1, (List.getElem?_eq_some_iff.1 hvi).2] at h9
          simp only [pagesV, hpg] at h9
          rw [← h9]
          simp)
      clear ho6 hx6 hxm6 HC HS HR1 HR2 HB5 HPT hq5 hpg
      go_loopw [11, 40] (fun _ s40 w' => ItI J Q0 B bb b (some ⟨bs, os, none⟩) N c b5 x A1 n1 c1 (some ⟨bt, ot, none⟩) n2 c2 (b.secs.drop (i + 1)) k v pgs A6 w.heap.size s40 w') (fun _ s40 _ => toM pgs.length s40)
      case atStart => exact HI6.out
      case round =>
        clear HI6
        rename World => wi
        obtain ⟨p, num3, suf3, pre3, Q3, hp, rfl, hC, hBd3, hq5, hB5, hR1, hR2, hRP, hS⟩ := hrel
        by_cases hpl : p < pgs.length
        case neg =>
          obtain hpe : p = pgs.length := by omega
          have hnp : ¬ ((p : Int) < (pgs.length : Int)) := by omega
          have HRL := Lib.hid (show ItM J Q0 B bb b (some ⟨bs, os, none⟩) N c b5 x A1 n1 c1 (some ⟨bt, ot, none⟩) n2 c2 (b.secs.drop (i + 1)) (.int .i64 ((k : Int) + 1)) wi by
            refine ⟨k + 1, num3, suf3, pre3, Q3, by have := HL2.out; omega, by simp, hC, hBd3, hq5, hB5, hR1, hR2, ?_⟩
            rw [List.drop_of_length_le (l := pgs) (by omega)] at hS
            simpa [pagesT] using hS)
          clear hC hS hR1 hR2 hB5 hRP hpe
          go_wp2_with fail
          go_roundw
          case rel => exact HRL.out
          case measure => simp only [toM]; omega
        have hP : (p : Int) < (pgs.length : Int) := by omega
        obtain ⟨pg, hpi⟩ : ∃ pg, pgs[p]? = some pg := ⟨_, List.getElem?_eq_getElem hpl⟩
        obtain ⟨bp, op, cp, rfl, hbp, hqp, hrp, hcp⟩ := Lay.row_at hRP (i := p) (x := pgOf pg) (by rw [List.getElem?_map, hpi]; rfl)
        obtain ⟨A7, n7, c7, A8, n8, c8, rfl, hn7, hn8, hr7, hr8⟩ := kPg_rep.1 hrp
        have q0 := hcp 0 _ rfl
        have q1 := hcp 1 _ rfl
        have q2 := hcp 2 _ rfl
        have q3 := hcp 3 _ rfl
        have q4 := hcp 4 _ rfl
        have q5 := hcp 5 _ rfl
        rw [kPg_sz] at q0 q1 q2 q3 q4 q5
        rw [Nat.add_zero] at q0
        obtain ⟨b9, hb9⟩ : ∃ b9, wi.heap.size = b9 := ⟨_, rfl⟩
        obtain ⟨w7, hw7⟩ : ∃ w7, wi.alloc (.cells #[.int .i64 (pgOf pg).num, .int .i64 (pgOf pg).suf, .int .i64 (pgOf pg).ent, .int .i64 (pgOf pg).ver, .slice A7 n7 c7, .slice A8 n8 c8] 84) = w7 := ⟨_, rfl⟩
        have hx7 : Ext wi w7 := by rw [← hw7]; exact (Ext.refl wi).alloc _
        have hB9 : w7.heap[b9]? = some (.cells #[.int .i64 (pgOf pg).num, .int .i64 (pgOf pg).suf, .int .i64 (pgOf pg).ent, .int .i64 (pgOf pg).ver, .slice A7 n7 c7, .slice A8 n8 c8] 84 (0, 0)) := by
          rw [← hw7, ← hb9]
          exact heap_alloc_new wi _
        have hBi : B < wi.heap.size := lt_of_block hC.hB
        have hpre : pre3.length + 1 ≤ 1000000 := by
          have h9 := congrArg List.length hS
          rw [List.drop_eq_getElem_cons hpl, pagesT] at h9
          simp only [List.length_append, List.length_map, List.length_cons] at h9
          have := HBI.out.np
          omega
        obtain ⟨hd0, hd1, hd2, hd3⟩ := hBd3
        have HC := Lib.hid hC
        have HS := Lib.hid hS
        have HR1 := Lib.hid hR1
        have HR2 := Lib.hid hR2
        have HB5 := Lib.hid hB5
        have HRP := Lib.hid hRP
        have HR7 := Lib.hid hr7
        have HR8 := Lib.hid hr8
        have HPI := Lib.hid hpi
        have HC7 := Lib.hid (hC.ext HJ.out hx7)
        have HX7 := Lib.hid hx7
        have HB9 := Lib.hid hB9
        have y1 := cell_of HC7.out.hB (i := 0) rfl
        have y2 := frozen_of HC7.out.hB 0
        have y3 := cell_of HC7.out.hB (i := 1) rfl
        have y4 := frozen_of HC7.out.hB 1
        clear hC hS hR1 hR2 hB5 hRP hr7 hr8 hpi hcp hrp hx7 hB9
        have HS7 := Lib.hid (show w7.heap.size = wi.heap.size + 1 by rw [← hw7]; simp)
        go_upto_region 12 with (fail)
        clear hw7
        obtain ⟨bv, ov, cv, rfl, hbv, hqv, hrv, hcv⟩ := Lay.row_at (Lay.row_ext HR1.out HX7.out) hvi
        have hn1k : k < n1 := by have := Lay.row_len HR1.out; have := (List.getElem?_eq_some_iff.1 hvi).1; omega
        have hK1 : (k : Int) < (n1 : Int) := by omega
        obtain rfl : cv = [.int .i64 v] := hrv
        have v0 := hcv 0 _ rfl
        rw [show kInt.sz = 1 from rfl, Nat.mul_one, Nat.add_zero] at v0
        have HB57 := Lib.hid ((HX7.out.block _ (lt_of_block HB5.out)).trans HB5.out)
        have hqlv := HQL.out bv hqv
        have hbB : bv ≠ B := by omega
        have h5B : b5 ≠ B := by
          intro e
          have h9 := HB5.out
          rw [e, HC.out.hB] at h9
          simp at h9
        have h9B : b9 ≠ B := by omega
        clear hcv
        by_cases hk0 : k = 0
        · have hkb : ((k : Int) == 0) = true := by simp [hk0]
          have HK0 := Lib.hid hk0
          clear hk0
          go_upto_region 15 with (fail)
          obtain ⟨w8, hw8⟩ : ∃ w8, w7.setCell ⟨B, 0, none⟩ (.int .i64 (num3 + 1)) = w8 := ⟨_, rfl⟩
          have HC8 := Lib.hid (show ItC J Q0 B bb b (some ⟨bs, os, none⟩) N c (num3 + 1) suf3 pre3 (Qn Q3 wi w7) w8 from by
            rw [← hw8]
            refine HC7.out.set HJ.out (Mv.set _) (by simp) ?_ (by omega) (by have := HQL.out 4 h4; omega) (fun j hj => by have := HQL.out j hj; omega)
            rw [heap_setCell_same _ B 0 _ 64 _ HC7.out.hB]
            rfl)
          have x0 := cell_of HC8.out.hB (i := 0) rfl
          have x1 := cell_of HC8.out.hB (i := 1) rfl
          have hk8 : ∀ q, q ≠ B → w8.heap[q]? = w7.heap[q]? := fun q hq => by rw [← hw8]; exact heap_setCell_other _ ⟨B, 0, none⟩ q _ hq
          have hB58 := (hk8 b5 h5B).trans HB57.out
          have hB98 := (hk8 b9 h9B).trans HB9.out
          have p0 := cell_of hB58 (i := 0) rfl
          have p2 := cell_of hB58 (i := 2) rfl
          have hv8 : w8.cell? ⟨bv, ov + k, none⟩ = some (.int .i64 v) := by
            rw [← hw8]
            exact (World.cell?_setCell_other _ _ _ _ (by intro e; injection e with e; exact hbB e.symm)).trans v0
          have s0 := cell_of hB98 (i := 0) rfl
          have s1 := cell_of hB98 (i := 1) rfl
          have s2 := cell_of hB98 (i := 2) rfl
          have s3 := cell_of hB98 (i := 3) rfl
          have s4 := cell_of hB98 (i := 4) rfl
          have s5 := cell_of hB98 (i := 5) rfl
          have t0 := frozen_of hB98 0
          have t1 := frozen_of hB98 1
          have t2 := frozen_of hB98 2
          have t3 := frozen_of hB98 3
          have hb59 : ¬ b5 = b9 := by have := lt_of_block HB5.out; omega
          have hbv9 : ¬ bv = b9 := by omega
          have hBn9 : ¬ B = b9 := by omega
          have hb95 : b9 ≠ b5 := fun e => hb59 e.symm
          have hb9v : b9 ≠ bv := fun e => hbv9 e.symm
          rw [hw8]
          have hsz8 : w8.heap.size = w7.heap.size := by rw [← hw8]; simp
          have HB98 := Lib.hid hB98
          have HMV8 := Lib.hid (show Mv B wi w8 by rw [← hw8]; exact (Mv.of_ext HX7.out).trans (Mv.set _))
          clear hw8 hB58 hB98 y1 y2 y3 y4 v0 q0 q1 q2 q3 q4 q5
          go_region_held3 (fun W => W.cell? ⟨B, 0, none⟩ = some (.int .i64 (num3 + 1)) ∧ W.cell? ⟨B, 1, none⟩ = some (.int .i64 suf3) ∧ W.cell? ⟨b5, 0, none⟩ = some (.int .i64 x.ent) ∧ W.cell? ⟨b5, 2, none⟩ = some (.slice (some ⟨bv, ov, none⟩) n1 c1) ∧ W.cell? ⟨bv, ov + k, none⟩ = some (.int .i64 v)) (go_keep) (fail)
          all_goals
            obtain ⟨w9, hw9⟩ : ∃ w9, ((((w8.setCell ⟨b9, 0, none⟩ (.int .i64 (num3 + 1))).setCell ⟨b9, 1, none⟩ (.int .i64 suf3)).setCell ⟨b9, 2, none⟩ (.int .i64 x.ent)).setCell ⟨b9, 3, none⟩ (.int .i64 v)).drew = w9 := ⟨_, rfl⟩
            rw [hw9]
            have hk9 : ∀ q, q ≠ b9 → w9.heap[q]? = w8.heap[q]? := fun q hq => by
              rw [← hw9]
              exact (heap_setCell_other _ ⟨b9, 3, none⟩ q _ hq).trans ((heap_setCell_other _ ⟨b9, 2, none⟩ q _ hq).trans ((heap_setCell_other _ ⟨b9, 1, none⟩ q _ hq).trans (heap_setCell_other _ ⟨b9, 0, none⟩ q _ hq)))
            have hsz9 : w9.heap.size = w7.heap.size := by rw [← hw9]; rw [← hsz8]; simp
            have hmv9 : Mv B wi w9 := by
              rw [← hw9]
              exact ((((HMV8.out.setNew (p := ⟨b9, 0, none⟩) (by show wi.heap.size ≤ b9; omega) _).setNew (p := ⟨b9, 1, none⟩) (by show wi.heap.size ≤ b9; omega) _).setNew (p := ⟨b9, 2, none⟩) (by show wi.heap.size ≤ b9; omega) _).setNew (p := ⟨b9, 3, none⟩) (by show wi.heap.size ≤ b9; omega) _).trans (Mv.of_ext (Ext.refl _).drew)
            have hC9l : wi.heap.size ≤ w9.heap.size := by have := HX7.out.lt; omega
            have HC9 := Lib.hid (show ItC J Q0 B bb b (some ⟨bs, os, none⟩) N c (num3 + 1) suf3 pre3 (Qn Q3 wi w9) w9 from
              HC.out.mv HJ.out hmv9 (by have := HX7.out.lt; omega) ((hk9 B (by omega)).trans HC8.out.hB) (by omega) (by have := HQL.out 4 h4; omega) (fun j hj => by have := HQL.out j hj; omega))
            have HB99 := Lib.hid (show w9.heap[b9]? = some (.cells #[.int .i64 (num3 + 1), .int .i64 suf3, .int .i64 x.ent, .int .i64 v, .slice A7 n7 c7, .slice A8 n8 c8] 84 (0, 0)) by
              rw [← hw9]
              exact heap_setCell_same _ b9 3 _ 84 _ (heap_setCell_same _ b9 2 _ 84 _ (heap_setCell_same _ b9 1 _ 84 _ (heap_setCell_same _ b9 0 _ 84 _ HB98.out))))
            have HRp := Lib.hid (show pgRp (fun j => (Qn Q3 wi w9 j ∧ j ≠ B) ∧ w.heap.size ≤ j) (⟨(num3 + 1), suf3, x.ent, v, pg.1, pg.2⟩, (A7, n7, c7), (A8, n8, c8)) w9 from
              ⟨hn7, hn8, Lay.row_mono (Lay.row_keep HR7.out hC9l fun j hj hl => hmv9.keep j hj.1.2.2 hl) fun j hj _ => ⟨⟨.inl hj.1.1, hj.1.2.2⟩, hj.2⟩, Lay.row_mono (Lay.row_keep HR8.out hC9l fun j hj hl => hmv9.keep j hj.1.2.2 hl) fun j hj _ => ⟨⟨.inl hj.1.1, hj.1.2.2⟩, hj.2⟩, HLB.out pg (List.mem_of_getElem? HPI.out)⟩)
            have hq0B : ∀ j, Q0 j → j ≠ B := fun j hj => by have := HQL.out j hj; omega
            have HNX := Lib.hid (fun (W2 : World) (hJ2 : J (pre3 ++ [(⟨(num3 + 1), suf3, x.ent, v, pg.1, pg.2⟩, (A7, n7, c7), (A8, n8, c8))]) (Qn Q3 wi w9) W2) (hk2 : ∀ j, Qn Q3 wi w9 j → W2.heap[j]? = w9.heap[j]?) =>
              show ItI J Q0 B bb b (some ⟨bs, os, none⟩) N c b5 x (some ⟨bv, ov, none⟩) n1 c1 (some ⟨bt, ot, none⟩) n2 c2 (b.secs.drop (i + 1)) k v pgs (some ⟨bp, op, none⟩) w.heap.size (.int .i64 ((p : Int) + 1)) W2 from
              itI_next HPI.out hbb h4 (by rw [show stN k num3 = (num3 + 1) from (if_pos HK0.out), show stS k suf3 = suf3 from (if_pos HK0.out)]; exact HC9.out) (.inr ⟨by have := HS7.out; omega, by have := HS7.out; omega⟩) ⟨hd0, hd1, hd2, hd3⟩ hq5
                ((hmv9.keep b5 h5B (lt_of_block HB5.out)).trans HB5.out) (Lay.row_keep HR1.out hC9l fun j hj hl => hmv9.keep j (hq0B j hj) hl) (Lay.row_keep HR2.out hC9l fun j hj hl => hmv9.keep j (hq0B j hj) hl)
                (Lay.row_keep HRP.out hC9l fun j hj hl => hmv9.keep j hj.1.2.2 hl) HS.out (by rw [show stN k num3 = (num3 + 1) from (if_pos HK0.out), show stS k suf3 = suf3 from (if_pos HK0.out)]) hJ2 hk2)
            have HST := Lib.hid (show (pre3 ++ [((⟨(num3 + 1), suf3, x.ent, v, pg.1, pg.2⟩, (A7, n7, c7), (A8, n8, c8)) : PgV)]).map (·.1) <+: pagesB b from
              itI_stop HPI.out HS.out (by rw [show stN k num3 = (num3 + 1) from (if_pos HK0.out), show stS k suf3 = suf3 from (if_pos HK0.out)]))
            obtain ⟨fn, tm, asg, bod, hy, hRo⟩ := HY.out pre3 (⟨(num3 + 1), suf3, x.ent, v, pg.1, pg.2⟩, (A7, n7, c7), (A8, n8, c8)) (Qn Q3 wi w9) w9 HC9.out.j HRp.out HC9.out.lt (by omega) HST.out
            dsimp only [pgEnc] at hy
            have r0 := cell_of HB99.out (i := 0) rfl
            have r1 := cell_of HB99.out (i := 1) rfl
            have r2 := cell_of HB99.out (i := 2) rfl
            have r3 := cell_of HB99.out (i := 3) rfl
            have r4 := cell_of HB99.out (i := 4) rfl
            have r5 := cell_of HB99.out (i := 5) rfl
            clear hw9 hk9 hmv9 hsz9 hsz8 hk8 p0 p2 hv8 s0 s1 s2 s3 s4 s5 t0 t1 t2 t3 x0 x1
            go_upto_region 16 with (fail)
            refine (wpIn_wide (n := n)).1 ?_
            gi_wp2
            refine ⟨fun h => by simp [Fence.wide] at h, hRo.mono ?_⟩
            rintro e W2 (⟨rfl, hJ2, hk2⟩ | ⟨rfl, hJx2⟩)
            · have HN2 := Lib.hid (HNX.out W2 hJ2 hk2)
              clear hJ2 hk2 HX5 HC9 HB99 HRp
              dsimp only
              gi_wp2
              go_wp2_with fail
              go_roundw
              case rel => exact HN2.out
              case measure => simp only [toM]; omega
            · have HX2 := Lib.hid (show (∃ pre Q, pre.map (·.1) <+: pagesB b ∧ Jx pre Q W2) from ⟨_, _, HST.out, hJx2⟩)
              clear hJx2 HX5 HC9 HB99 HRp
              dsimp only
              gi_wp2
              go_wp2_with fail
              refine bodyPost_ret (results_none rfl _ _ _) rfl ?_
              exact ⟨⟨_, rfl⟩, .inr (by obtain ⟨q1, q2, h1, h2⟩ := HX2.out; exact ⟨q1, q2, h1, h2⟩)⟩
        · have hkb : ((k : Int) == 0) = false := by simp; omega
          have HK0 := Lib.hid hk0
          clear hk0
          go_upto_region 15 with (fail)
          obtain ⟨w8, hw8⟩ : ∃ w8, w7.setCell ⟨B, 1, none⟩ (.int .i64 (suf3 + 1)) = w8 := ⟨_, rfl⟩
          have HC8 := Lib.hid (show ItC J Q0 B bb b (some ⟨bs, os, none⟩) N c num3 (suf3 + 1) pre3 (Qn Q3 wi w7) w8 from by
            rw [← hw8]
            refine HC7.out.set HJ.out (Mv.set _) (by simp) ?_ (by omega) (by have := HQL.out 4 h4; omega) (fun j hj => by have := HQL.out j hj; omega)
            rw [heap_setCell_same _ B 1 _ 64 _ HC7.out.hB]
            rfl)
          have x0 := cell_of HC8.out.hB (i := 0) rfl
          have x1 := cell_of HC8.out.hB (i := 1) rfl
          have hk8 : ∀ q, q ≠ B → w8.heap[q]? = w7.heap[q]? := fun q hq => by rw [← hw8]; exact heap_setCell_other _ ⟨B, 1, none⟩ q _ hq
          have hB58 := (hk8 b5 h5B).trans HB57.out
          have hB98 := (hk8 b9 h9B).trans HB9.out
          have p0 := cell_of hB58 (i := 0) rfl
          have p2 := cell_of hB58 (i := 2) rfl
          have hv8 : w8.cell? ⟨bv, ov + k, none⟩ = some (.int .i64 v) := by
            rw [← hw8]
            exact (World.cell?_setCell_other _ _ _ _ (by intro e; injection e with e; exact hbB e.symm)).trans v0
          have s0 := cell_of hB98 (i := 0) rfl
          have s1 := cell_of hB98 (i := 1) rfl
          have s2 := cell_of hB98 (i := 2) rfl
          have s3 := cell_of hB98 (i := 3) rfl
          have s4 := cell_of hB98 (i := 4) rfl
          have s5 := cell_of hB98 (i := 5) rfl
          have t0 := frozen_of hB98 0
          have t1 := frozen_of hB98 1
          have t2 := frozen_of hB98 2
          have t3 := frozen_of hB98 3
          have hb59 : ¬ b5 = b9 := by have := lt_of_block HB5.out; omega
          have hbv9 : ¬ bv = b9 := by omega
          have hBn9 : ¬ B = b9 := by omega
          have hb95 : b9 ≠ b5 := fun e => hb59 e.symm
          have hb9v : b9 ≠ bv := fun e => hbv9 e.symm
          rw [hw8]
          have hsz8 : w8.heap.size = w7.heap.size := by rw [← hw8]; simp
          have HB98 := Lib.hid hB98
          have HMV8 := Lib.hid (show Mv B wi w8 by rw [← hw8]; exact (Mv.of_ext HX7.out).trans (Mv.set _))
          clear hw8 hB58 hB98 y1 y2 y3 y4 v0 q0 q1 q2 q3 q4 q5
          go_region_held3 (fun W => W.cell? ⟨B, 0, none⟩ = some (.int .i64 num3) ∧ W.cell? ⟨B, 1, none⟩ = some (.int .i64 (suf3 + 1)) ∧ W.cell? ⟨b5, 0, none⟩ = some (.int .i64 x.ent) ∧ W.cell? ⟨b5, 2, none⟩ = some (.slice (some ⟨bv, ov, none⟩) n1 c1) ∧ W.cell? ⟨bv, ov + k, none⟩ = some (.int .i64 v)) (go_keep) (fail)
          all_goals
            obtain ⟨w9, hw9⟩ : ∃ w9, ((((w8.setCell ⟨b9, 0, none⟩ (.int .i64 num3)).setCell ⟨b9, 1, none⟩ (.int .i64 (suf3 + 1))).setCell ⟨b9, 2, none⟩ (.int .i64 x.ent)).setCell ⟨b9, 3, none⟩ (.int .i64 v)).drew = w9 := ⟨_, rfl⟩
            rw [hw9]
            have hk9 : ∀ q, q ≠ b9 → w9.heap[q]? = w8.heap[q]? := fun q hq => by
              rw [← hw9]
              exact (heap_setCell_other _ ⟨b9, 3, none⟩ q _ hq).trans ((heap_setCell_other _ ⟨b9, 2, none⟩ q _ hq).trans ((heap_setCell_other _ ⟨b9, 1, none⟩ q _ hq).trans (heap_setCell_other _ ⟨b9, 0, none⟩ q _ hq)))
            have hsz9 : w9.heap.size = w7.heap.size := by rw [← hw9]; rw [← hsz8]; simp
            have hmv9 : Mv B wi w9 := by
              rw [← hw9]
              exact ((((HMV8.out.setNew (p := ⟨b9, 0, none⟩) (by show wi.heap.size ≤ b9; omega) _).setNew (p := ⟨b9, 1, none⟩) (by show wi.heap.size ≤ b9; omega) _).setNew (p := ⟨b9, 2, none⟩) (by show wi.heap.size ≤ b9; omega) _).setNew (p := ⟨b9, 3, none⟩) (by show wi.heap.size ≤ b9; omega) _).trans (Mv.of_ext (Ext.refl _).drew)
            have hC9l : wi.heap.size ≤ w9.heap.size := by have := HX7.out.lt; omega
            have HC9 := Lib.hid (show ItC J Q0 B bb b (some ⟨bs, os, none⟩) N c num3 (suf3 + 1) pre3 (Qn Q3 wi w9) w9 from
              HC.out.mv HJ.out hmv9 (by have := HX7.out.lt; omega) ((hk9 B (by omega)).trans HC8.out.hB) (by omega) (by have := HQL.out 4 h4; omega) (fun j hj => by have := HQL.out j hj; omega))
            have HB99 := Lib.hid (show w9.heap[b9]? = some (.cells #[.int .i64 num3, .int .i64 (suf3 + 1), .int .i64 x.ent, .int .i64 v, .slice A7 n7 c7, .slice A8 n8 c8] 84 (0, 0)) by
              rw [← hw9]
              exact heap_setCell_same _ b9 3 _ 84 _ (heap_setCell_same _ b9 2 _ 84 _ (heap_setCell_same _ b9 1 _ 84 _ (heap_setCell_same _ b9 0 _ 84 _ HB98.out))))
            have HRp := Lib.hid (show pgRp (fun j => (Qn Q3 wi w9 j ∧ j ≠ B) ∧ w.heap.size ≤ j) (⟨num3, (suf3 + 1), x.ent, v, pg.1, pg.2⟩, (A7, n7, c7), (A8, n8, c8)) w9 from
              ⟨hn7, hn8, Lay.row_mono (Lay.row_keep HR7.out hC9l fun j hj hl => hmv9.keep j hj.1.2.2 hl) fun j hj _ => ⟨⟨.inl hj.1.1, hj.1.2.2⟩, hj.2⟩, Lay.row_mono (Lay.row_keep HR8.out hC9l fun j hj hl => hmv9.keep j hj.1.2.2 hl) fun j hj _ => ⟨⟨.inl hj.1.1, hj.1.2.2⟩, hj.2⟩, HLB.out pg (List.mem_of_getElem? HPI.out)⟩)
            have hq0B : ∀ j, Q0 j → j ≠ B := fun j hj => by have := HQL.out j hj; omega
            have HNX := Lib.hid (fun (W2 : World) (hJ2 : J (pre3 ++ [(⟨num3, (suf3 + 1), x.ent, v, pg.1, pg.2⟩, (A7, n7, c7), (A8, n8, c8))]) (Qn Q3 wi w9) W2) (hk2 : ∀ j, Qn Q3 wi w9 j → W2.heap[j]? = w9.heap[j]?) =>
              show ItI J Q0 B bb b (some ⟨bs, os, none⟩) N c b5 x (some ⟨bv, ov, none⟩) n1 c1 (some ⟨bt, ot, none⟩) n2 c2 (b.secs.drop (i + 1)) k v pgs (some ⟨bp, op, none⟩) w.heap.size (.int .i64 ((p : Int) + 1)) W2 from
              itI_next HPI.out hbb h4 (by rw [show stN k num3 = num3 from (if_neg HK0.out), show stS k suf3 = (suf3 + 1) from (if_neg HK0.out)]; exact HC9.out) (.inr ⟨by have := HS7.out; omega, by have := HS7.out; omega⟩) ⟨hd0, hd1, hd2, hd3⟩ hq5
                ((hmv9.keep b5 h5B (lt_of_block HB5.out)).trans HB5.out) (Lay.row_keep HR1.out hC9l fun j hj hl => hmv9.keep j (hq0B j hj) hl) (Lay.row_keep HR2.out hC9l fun j hj hl => hmv9.keep j (hq0B j hj) hl)
                (Lay.row_keep HRP.out hC9l fun j hj hl => hmv9.keep j hj.1.2.2 hl) HS.out (by rw [show stN k num3 = num3 from (if_neg HK0.out), show stS k suf3 = (suf3 + 1) from (if_neg HK0.out)]) hJ2 hk2)
            have HST := Lib.hid (show (pre3 ++ [((⟨num3, (suf3 + 1), x.ent, v, pg.1, pg.2⟩, (A7, n7, c7), (A8, n8, c8)) : PgV)]).map (·.1) <+: pagesB b from
              itI_stop HPI.out HS.out (by rw [show stN k num3 = num3 from (if_neg HK0.out), show stS k suf3 = (suf3 + 1) from (if_neg HK0.out)]))
            obtain ⟨fn, tm, asg, bod, hy, hRo⟩ := HY.out pre3 (⟨num3, (suf3 + 1), x.ent, v, pg.1, pg.2⟩, (A7, n7, c7), (A8, n8, c8)) (Qn Q3 wi w9) w9 HC9.out.j HRp.out HC9.out.lt (by omega) HST.out
            dsimp only [pgEnc] at hy
            have r0 := cell_of HB99.out (i := 0) rfl
            have r1 := cell_of HB99.out (i := 1) rfl
            have r2 := cell_of HB99.out (i := 2) rfl
            have r3 := cell_of HB99.out (i := 3) rfl
            have r4 := cell_of HB99.out (i := 4) rfl
            have r5 := cell_of HB99.out (i := 5) rfl
            clear hw9 hk9 hmv9 hsz9 hsz8 hk8 p0 p2 hv8 s0 s1 s2 s3 s4 s5 t0 t1 t2 t3 x0 x1
            go_upto_region 16 with (fail)
            refine (wpIn_wide (n := n)).1 ?_
            gi_wp2
            refine ⟨fun h => by simp [Fence.wide] at h, hRo.mono ?_⟩
            rintro e W2 (⟨rfl, hJ2, hk2⟩ | ⟨rfl, hJx2⟩)
            · have HN2 := Lib.hid (HNX.out W2 hJ2 hk2)
              clear hJ2 hk2 HX5 HC9 HB99 HRp
              dsimp only
              gi_wp2
              go_wp2_with fail
              go_roundw
              case rel => exact HN2.out
              case measure => simp only [toM]; omega
            · have HX2 := Lib.hid (show (∃ pre Q, pre.map (·.1) <+: pagesB b ∧ Jx pre Q W2) from ⟨_, _, HST.out, hJx2⟩)
              clear hJx2 HX5 HC9 HB99 HRp
              dsimp only
              gi_wp2
              go_wp2_with fail
              refine bodyPost_ret (results_none rfl _ _ _) rfl ?_
              exact ⟨⟨_, rfl⟩, .inr (by obtain ⟨q1, q2, h1, h2⟩ := HX2.out; exact ⟨q1, q2, h1, h2⟩)⟩
end Go.Proofs.YtdbnddmncbjobaaGreatDoor

/- A range over a function whose loop variable is laid in a block by the assignment. -/
namespace Go.Proofs.YtdbnddmncbjobaaGreatDoor
open Go Go.RowKit

theorem rangeH {α : Type} {F : Fence} {n : Nat} {P : Program} {g : Operand} {ps : Array Tmp} {assign body : Code} {Q : Exit → Act → World → Prop} {a : Act} {w : World}
    (hro : F.round = none) (h1 : 1 ≤ n) {gf : Nat} {lb : Array Value} (hg : a.eval g = .func (.func gf) #[] lb) (hFg : F.fn gf) (eg : ∀ args w, (callFunc gf args).run P w = .ok (.enter gf args) w)
    {encs : α → Array Value} {Rp : (Nat → Prop) → α → World → Prop} {S Sp : List α → Prop} {Q0 : Nat → Prop} (hseq : RSeq F (n - 1) P gf lb encs Rp S Sp Q0 w) (hps : ∀ x, (encs x).size = ps.size)
    (hRp : ∀ q x W l o', Rp q x W → (∀ j, q j → j ≠ l) → Rp q x (W.putObj l o'))
    (I : List α → (Nat → Prop) → World → Prop) (Ix : Code → List α → (Nat → Prop) → World → Prop) (hI : AbMv (w.heap.size + 2) I) (hIx : ∀ c, AbMv (w.heap.size + 2) (Ix c))
    (hIp : ∀ s q W o', I s q W → I s q (W.putObj (w.heap.size + 1) o')) (hIxp : ∀ c s q W o', Ix c s q W → Ix c s q (W.putObj (w.heap.size + 1) o'))
    (_hQ0 : ∀ j, Q0 j → j < w.heap.size) (hIQ : ∀ s q W, I s q W → ∀ j, q j → j ≠ w.heap.size ∧ j ≠ w.heap.size + 1)
    (h0 : ∀ W, Ext w W → W.heap.size = w.heap.size + 2 → I [] Q0 W) (Ax : α → (Nat → Prop) → Act → World → Prop) (hAp : ∀ x q a' W o', Ax x q a' W → Ax x q a' (W.putObj (w.heap.size + 1) o')) (hRx : ∀ q x W W', Rp q x W → Ext W W' → Rp q x W')
    (hassign : ∀ (l : Nat) (x : α) (q : Nat → Prop) (W : World) (K : Act → World → Prop), Rp q x W → w.heap.size + 2 < W.heap.size → (∀ j, q j → j < W.heap.size) → (∀ a' W', Ext W W' → Ax x q a' W' → K a' W') →
      assign.wpIn (F.inRound l) (n - 1 - 1) P (Exit.then K (fun _ _ _ => False)) { tmps := (ps.zip (encs x)).foldl (fun t (p, v) => t.setIfInBounds p v) a.tmps, defers := [] } W)
    (hbody : ∀ (pre : List α) (x : α) (q : Nat → Prop) (a' : Act) (W : World), I pre q W → Rp (fun j => (q j ∧ j ≠ w.heap.size + 2) ∧ w.heap.size ≤ j) x W → Ax x (fun j => (q j ∧ j ≠ w.heap.size + 2) ∧ w.heap.size ≤ j) a' W → (∀ j, q j → j < W.heap.size) → w.heap.size + 2 < W.heap.size → Sp (pre ++ [x]) → body.wpIn (F.inRound (w.heap.size + 1)) (n - 1 - 1) P (rgPost (w.heap.size + 1) w.heap.size q I Ix (pre ++ [x]) W) a' W)
    (hdone : ∀ (xs : List α) (q : Nat → Prop) (W : World), S xs → I xs q W → W.heap[w.heap.size]? = some (.deferred (some [])) → Q .normal { a with defers := { target := .collected w.heap.size, args := #[] } :: a.defers } W)
    (hstop : ∀ (c : Code) (pre : List α) (q : Nat → Prop) (W : World), Sp pre → Ix c pre q W → W.heap[w.heap.size]? = some (.deferred (some [])) → c.wpIn F n P Q { a with defers := { target := .collected w.heap.size, args := #[] } :: a.defers } W) :
    (Code.rangeFunc g ps assign body).wpIn F n P Q a w := by
  refine wpIn_rangeFunc ?_
  intro fn hfn
  rw [hro]
  obtain ⟨rec, hrec⟩ : ∃ rec : LoopState → Option Code → Loop, rec = fun st pe => { state := st, pending := pe, fn, tmps := a.tmps, params := ps, assign, body, defers := w.heap.size } := ⟨_, rfl⟩
  obtain ⟨W1, hW1⟩ : ∃ W1, (w.alloc (.deferred (some []))).alloc (.loop (rec .ready none)) = W1 := ⟨_, rfl⟩
  have hx1 : Ext w W1 := by rw [← hW1]; exact ((Ext.refl w).alloc _).alloc _
  have hs1 : W1.heap.size = w.heap.size + 2 := by rw [← hW1]; simp
  have hL1 : W1.heap[w.heap.size + 1]? = some (.loop (rec .ready none)) := by
    rw [← hW1]; have := World.alloc_heap_new (w.alloc (.deferred (some []))) (.loop (rec .ready none)); rwa [World.size_alloc] at this
  have hK1 : W1.heap[w.heap.size]? = some (.deferred (some [])) := by
    rw [← hW1]; exact (Below.heap_alloc _ _ _ (by simp)).trans (World.alloc_heap_new w _)
  refine ⟨w.heap.size + 1, [{ target := .collected w.heap.size, args := #[] }], W1, { target := .fn (.func gf) lb, args := #[.func (.yield (w.heap.size + 1)) #[] #[]] }, W1, gf,
    #[.func (.yield (w.heap.size + 1)) #[] #[]] ++ lb, W1, ?_, ?_, ?_, ?_, fun _ => h1, ?_⟩
  · rw [← hW1, hrec]; exact run_enterLoop_outer _ _ _ _ _
  · simp only [resolve, hg]
    simp [go_sem]
  · intro f' hf'; simp [Target.leads] at hf'; subst hf'; exact hFg
  · simp [invoke, go_sem, eg]
  · have hne : ∀ {A B : World} {k : Nat} {o : Obj}, k < w.heap.size + 2 → Mv W1.heap.size A B → A.heap[k]? = some o → B.heap[k]? = some o := fun hk hm ho => hm.blk (by omega) ho
    refine (hseq (w.heap.size + 1)
      (fun pre q W => I pre q W ∧ W.heap[w.heap.size + 1]? = some (.loop (rec .ready none)) ∧ W.heap[w.heap.size]? = some (.deferred (some [])))
      (fun pre q W => ∃ c, Ix c pre q W ∧ W.heap[w.heap.size + 1]? = some (.loop (rec .done (some c))) ∧ W.heap[w.heap.size]? = some (.deferred (some [])))
      W1 hx1.lt (fun j hj => hx1.block j hj) hx1
      (fun s q q' A B hs hm hq => ⟨hI s q q' A B hs.1 (by rw [← hs1]; exact hm) (by rw [← hs1]; exact hq), hne (by omega) hm hs.2.1, hne (by omega) hm hs.2.2⟩)
      (fun s q q' A B hs hm hq => by
        obtain ⟨c, hc, hl, hk⟩ := hs
        exact ⟨c, hIx c s q q' A B hc (by rw [← hs1]; exact hm) (by rw [← hs1]; exact hq), hne (by omega) hm hl, hne (by omega) hm hk⟩)
      ?_ ⟨h0 W1 hx1 hs1, hL1, hK1⟩).mono ?_
    · rintro pre x q W ⟨hi, hl, hk⟩ hrp hqs hlen hsp
      have hlt : w.heap.size + 1 < W.heap.size := (Array.getElem?_eq_some_iff.1 hl).1
      have hq1 := hIQ _ _ _ hi
      have hy := run_yield (P := P) (args := encs x) hl (by rw [hrec]; exact hps x)
      rw [hrec] at hy
      refine ⟨fn, _, assign, body, hy, roundIn_of_wpIn hfn (hassign _ x (fun j => (q j ∧ j ≠ w.heap.size + 2) ∧ w.heap.size ≤ j) W _ (by rw [← hs1]; exact hrp) (by rw [← hs1]; exact hlen) (fun j hj => hqs j hj.1.1) fun a' W' hx hax => ?_)⟩
      have hl' : W'.heap[w.heap.size + 1]? = some (.loop (rec .ready none)) := (hx.block _ hlt).trans hl
      have hk' : W'.heap[w.heap.size]? = some (.deferred (some [])) := (hx.block _ (by omega)).trans hk
      have hlt' : w.heap.size + 1 < W'.heap.size := Nat.lt_of_lt_of_le hlt hx.lt
      refine ⟨_, run_beginRound hl' (by rw [hrec]), ?_⟩
      obtain ⟨W2, hW2⟩ : ∃ W2, W2 = W'.putObj (w.heap.size + 1) (.loop { rec .ready none with state := .busy }) := ⟨_, rfl⟩
      rw [← hW2]
      have hl2 : W2.heap[w.heap.size + 1]? = some (.loop { rec .ready none with state := .busy }) := by rw [hW2]; exact World.putObj_heap_same hlt'
      have hk2 : W2.heap[w.heap.size]? = some (.deferred (some [])) := by rw [hW2]; exact (World.putObj_heap_other (by omega)).trans hk'
      have hq2 : ∀ j, q j → W2.heap[j]? = W.heap[j]? := fun j hj => by rw [hW2]; exact (World.putObj_heap_other (hq1 j hj).2).trans (hx.block j (hqs j hj))
      have hsz2 : W2.heap.size = W'.heap.size := by rw [hW2]; simp
      have hi' : I pre q W' := hI _ _ _ _ _ hi (Mv.of_ext hx) fun j hj => .inl hj
      refine wpIn_mono (hbody pre x q a' W2 (by rw [hW2]; exact hIp _ _ _ _ hi') (by rw [hW2]; exact hRp _ _ _ _ _ (hRx _ _ _ _ (by rw [← hs1]; exact hrp) hx) fun j hj => (hq1 j hj.1.1).2) (by rw [hW2]; exact hAp _ _ _ _ _ hax) (fun j hj => by rw [hsz2]; exact Nat.lt_of_lt_of_le (hqs j hj) hx.lt) (by rw [hsz2, ← hs1]; exact Nat.lt_of_lt_of_le hlen hx.lt) hsp) ?_
      have fin : ∀ (jump : Option Code) (W3 : World), W3.heap[w.heap.size + 1]? = W2.heap[w.heap.size + 1]? → W3.heap[w.heap.size]? = W2.heap[w.heap.size]? →
          (Instr.endRound (w.heap.size + 1) jump).run P W3 = .ok (.bool jump.isNone) (W3.putObj (w.heap.size + 1) (.loop (rec (if jump.isNone then .ready else .done) jump))) ∧
          (W3.putObj (w.heap.size + 1) (.loop (rec (if jump.isNone then .ready else .done) jump))).heap[w.heap.size + 1]? = some (.loop (rec (if jump.isNone then .ready else .done) jump)) ∧
          (W3.putObj (w.heap.size + 1) (.loop (rec (if jump.isNone then .ready else .done) jump))).heap[w.heap.size]? = some (.deferred (some [])) := fun jump W3 e1 e2 => by
        have hl3 := e1.trans hl2
        have := run_endRound (P := P) jump hl3
        rw [hrec] at this ⊢
        exact ⟨this, World.putObj_heap_same (Array.getElem?_eq_some_iff.1 hl3).1, (World.putObj_heap_other (by omega)).trans (e2.trans hk2)⟩
      rintro e a3 W3 hp
      cases e with
      | normal =>
        obtain ⟨⟨hk3, hd3⟩, hq3, hi3⟩ := hp
        obtain ⟨hr, hl4, hk4⟩ := fin none W3 hk3 hd3
        exact ⟨_, _, hr, .inl ⟨rfl, ⟨hIp _ _ _ _ hi3, hl4, hk4⟩, fun j hj => (World.putObj_heap_other (hq1 j hj).2).trans ((hq3 j hj).trans (hq2 j hj))⟩⟩
      | ret =>
        obtain ⟨⟨hk3, hd3⟩, hi3⟩ := hp
        obtain ⟨hr, hl4, hk4⟩ := fin (some .ret) W3 hk3 hd3
        exact ⟨_, _, hr, .inr ⟨rfl, .ret, hIxp _ _ _ _ _ hi3, hl4, hk4⟩⟩
      | exit id =>
        obtain ⟨⟨hk3, hd3⟩, hi3⟩ := hp
        obtain ⟨hr, hl4, hk4⟩ := fin (some (.exit id)) W3 hk3 hd3
        exact ⟨_, _, hr, .inr ⟨rfl, .exit id, hIxp _ _ _ _ _ hi3, hl4, hk4⟩⟩
      | goto t =>
        obtain ⟨⟨hk3, hd3⟩, hi3⟩ := hp
        obtain ⟨hr, hl4, hk4⟩ := fin (some (.goto t)) W3 hk3 hd3
        exact ⟨_, _, hr, .inr ⟨rfl, .goto t, hIxp _ _ _ _ _ hi3, hl4, hk4⟩⟩
      | panic ch => exact hp.elim
      | outgrown => exact hp.elim
    · rintro e W2 ⟨⟨v, rfl⟩, (⟨xs, q, hS, hi, hl, hk⟩ | ⟨pre, q, hSp, c, hi, hl, hk⟩)⟩
      · exact ⟨none, _, by have := run_endLoop (P := P) hl (by rw [hrec]; simp); rw [hrec] at this; exact this, hdone xs q _ hS (hIp _ _ _ _ hi) ((World.putObj_heap_other (by omega)).trans hk)⟩
      · exact ⟨some c, _, by have := run_endLoop (P := P) hl (by rw [hrec]; simp); rw [hrec] at this; exact this, hstop c pre q _ hSp (hIxp _ _ _ _ _ hi) ((World.putObj_heap_other (by omega)).trans hk)⟩
end Go.Proofs.YtdbnddmncbjobaaGreatDoor

/- book.Page: walked. -/
namespace Go.Proofs.YtdbnddmncbjobaaGreatDoor
open Go Go.RowKit Go.Shelf
attribute [local go_sem] Oper.semAt_some

theorem Ext.putObj {a W : World} (h : Ext a W) {k : Nat} (hk : a.heap.size ≤ k) (o : Obj) : Ext a (W.putObj k o) :=
  ⟨h.os, h.tape, h.output, by simpa using h.size, fun j hj => (World.putObj_heap_other (by omega)).trans (h.block j hj)⟩
theorem EnvW.lt4 {w : World} (h : EnvW w) : 4 < w.heap.size := by
  have h1 := h w (Ext.refl w)
  have hg : Tryz.prog.globalNamed "rollbook/glyph.widths" = some 4 := by kernel_rfl
  unfold World.var? at h1
  rw [hg] at h1
  simp only [Option.bind_some] at h1
  rcases Nat.lt_or_ge 4 w.heap.size with h9 | h9
  · exact h9
  · rw [Array.getElem?_eq_none h9] at h1
    exact absurd h1 (by simp)
def PagePost (w : World) (b : Bk) (num suf : Int) (e : Ending) (w' : World) : Prop :=
  (pageP b num suf = none ∧ e = .returned (.tuple #[.agg #[.int .i64 0, .int .i64 0, .int .i64 0, .int .i64 0, .slice none 0 0, .slice none 0 0], .bool false]) ∧ Ext w w') ∨
  ∃ (p : Pg) (A7 : Option Addr) (n7 c7 : Nat) (A8 : Option Addr) (n8 c8 : Nat), pageP b num suf = some p ∧ e = .returned (.tuple #[.agg #[.int .i64 p.num, .int .i64 p.suf, .int .i64 p.ent, .int .i64 p.ver, .slice A7 n7 c7, .slice A8 n8 c8], .bool true]) ∧
    n7 ≤ c7 ∧ n8 ≤ c8 ∧ kLn.row w' (fun j => w.heap.size ≤ j) A7 n7 p.body ∧ kLn.row w' (fun j => w.heap.size ≤ j) A8 n8 p.nts ∧ Ext w w'
theorem heap_alloc_old (W : World) (o : Obj) (j : Nat) (h : j < W.heap.size) : (W.alloc o).heap[j]? = W.heap[j]? := Below.heap_alloc _ _ _ h
theorem heap_alloc_at (W : World) (cs : Array Value) (t : TypeId) (j : Nat) (h : j = W.heap.size) : (W.alloc (.cells cs t)).heap[j]? = some (.cells cs t (0, 0)) := by subst h; exact heap_alloc_new _ _
theorem pgRp_ext {q : Nat → Prop} {x : PgV} {W W' : World} (h : pgRp q x W) (hx : Ext W W') : pgRp q x W' := ⟨h.1, h.2.1, Lay.row_ext h.2.2.1 hx, Lay.row_ext h.2.2.2.1 hx, h.2.2.2.2⟩
theorem pgRp_put {q : Nat → Prop} {x : PgV} {W : World} {l : Nat} {o : Obj} (h : pgRp q x W) (hq : ∀ j, q j → j ≠ l) : pgRp q x (W.putObj l o) :=
  ⟨h.1, h.2.1, Lay.row_keep h.2.2.1 (by simp) fun j hj _ => World.putObj_heap_other (hq j hj), Lay.row_keep h.2.2.2.1 (by simp) fun j hj _ => World.putObj_heap_other (hq j hj), h.2.2.2.2⟩
def pgCells (p : Pg) (A7 : Option Addr) (n7 c7 : Nat) (A8 : Option Addr) (n8 c8 : Nat) : Array Value := #[.int .i64 p.num, .int .i64 p.suf, .int .i64 p.ent, .int .i64 p.ver, .slice A7 n7 c7, .slice A8 n8 c8]
def lbIs (num suf : Int) (p : Pg) : Bool := decide (p.num = num ∧ p.suf = suf)
/-- Between two rounds: no page has had the label. -/
structure PgI (w : World) (num suf : Int) (pre : List PgV) (q : Nat → Prop) (W : World) : Prop where
  x : Ext w W
  s : w.heap.size + 7 ≤ W.heap.size
  q : ∀ j, q j → j < w.heap.size ∨ j = w.heap.size + 4 ∨ w.heap.size + 7 ≤ j
  l : W.heap[w.heap.size + 1]? = some (.cells #[.int .i64 num, .int .i64 suf] 64 (0, 0))
  r : W.heap[w.heap.size + 2]? = some (.cells (pgCells ⟨0, 0, 0, 0, [], []⟩ none 0 0 none 0 0) 84 (0, 0))
  b : W.heap[w.heap.size + 3]? = some (.cells #[.bool false] 4 (0, 0))
  n : (pre.map (·.1)).find? (lbIs num suf) = none
/-- A page has had it. -/
structure PgX (w : World) (num suf : Int) (c : Code) (pre : List PgV) (q : Nat → Prop) (W : World) : Prop where
  c : c = .ret
  x : Ext w W
  s : w.heap.size + 8 ≤ W.heap.size
  p : ∃ (p : Pg) (A7 : Option Addr) (n7 c7 : Nat) (A8 : Option Addr) (n8 c8 : Nat), (pre.map (·.1)).find? (lbIs num suf) = some p ∧ n7 ≤ c7 ∧ n8 ≤ c8 ∧
    kLn.row W (fun j => w.heap.size + 8 ≤ j) A7 n7 p.body ∧ kLn.row W (fun j => w.heap.size + 8 ≤ j) A8 n8 p.nts ∧
    W.heap[w.heap.size + 2]? = some (.cells (pgCells p A7 n7 c7 A8 n8 c8) 84 (0, 0))
  b : W.heap[w.heap.size + 3]? = some (.cells #[.bool true] 4 (0, 0))
theorem PgI.ab {w wl : World} {num suf : Int} (hs : wl.heap.size = w.heap.size + 5) : AbMv (wl.heap.size + 2) (PgI w num suf) := by
  intro s Q Q' A B h hm hg
  have hsz := h.s
  refine ⟨hm.ext w (by omega) h.x, Nat.le_trans h.s hm.size, fun j hj => ?_, hm.blk (by omega) h.l, hm.blk (by omega) h.r, hm.blk (by omega) h.b, h.n⟩
  rcases hg j hj with h1 | h1 | h1
  · exact h.q j h1
  · omega
  · omega
theorem PgI.put {w wl : World} {num suf : Int} (hs : wl.heap.size = w.heap.size + 5) {s : List PgV} {q : Nat → Prop} {W : World} {o : Obj} (h : PgI w num suf s q W) : PgI w num suf s q (W.putObj (wl.heap.size + 1) o) :=
  ⟨h.x.putObj (by omega) o, by simpa using h.s, h.q, (World.putObj_heap_other (by omega)).trans h.l, (World.putObj_heap_other (by omega)).trans h.r, (World.putObj_heap_other (by omega)).trans h.b, h.n⟩
theorem PgX.ab {w wl : World} {num suf : Int} (hs : wl.heap.size = w.heap.size + 5) (c : Code) : AbMv (wl.heap.size + 2) (PgX w num suf c) := by
  intro s Q Q' A B h hm hg
  obtain ⟨p, A7, n7, c7, A8, n8, c8, h1, h2, h3, h4, h5, h6⟩ := h.p
  have hsz := h.s
  exact ⟨h.c, hm.ext w (by omega) h.x, Nat.le_trans h.s hm.size, ⟨p, A7, n7, c7, A8, n8, c8, h1, h2, h3, Lay.row_keep h4 hm.size fun j hj hl => hm.keep j (by omega) hl, Lay.row_keep h5 hm.size fun j hj hl => hm.keep j (by omega) hl, hm.blk (by omega) h6⟩, hm.blk (by omega) h.b⟩
theorem PgX.put {w wl : World} {num suf : Int} (hs : wl.heap.size = w.heap.size + 5) {c : Code} {s : List PgV} {q : Nat → Prop} {W : World} {k : Nat} {o : Obj} (hk : k = wl.heap.size + 1 ∨ k = wl.heap.size) (h : PgX w num suf c s q W) : PgX w num suf c s q (W.putObj k o) := by
  obtain ⟨p, A7, n7, c7, A8, n8, c8, h1, h2, h3, h4, h5, h6⟩ := h.p
  exact ⟨h.c, h.x.putObj (by omega) o, by simpa using h.s, ⟨p, A7, n7, c7, A8, n8, c8, h1, h2, h3, Lay.row_keep h4 (by simp) fun j hj hl => World.putObj_heap_other (by omega), Lay.row_keep h5 (by simp) fun j hj hl => World.putObj_heap_other (by omega), (World.putObj_heap_other (by omega)).trans h6⟩, (World.putObj_heap_other (by omega)).trans h.b⟩
def PgAx (w : World) (z1 z2 z3 z4 : Nat) (b : Bk) (num suf : Int) (A : Option Addr) (N c : Nat) (x : PgV) (_ : Nat → Prop) (a' : Act) (W : World) : Prop :=
  ∃ Bx, w.heap.size + 7 < Bx ∧ W.heap[Bx]? = some (.cells (pgCells x.1 x.2.1.1 x.2.1.2.1 x.2.1.2.2 x.2.2.1 x.2.2.2.1 x.2.2.2.2) 84 (0, 0)) ∧
    a' = { tmps := #[.agg #[.int .i64 b.ms, .int .i64 b.ht, .slice A N c], .agg #[.int .i64 num, .int .i64 suf], .pointer (some ⟨w.heap.size, 0, none⟩), .pointer (some ⟨z1, 0, none⟩), .pointer (some ⟨z2, 0, none⟩), .pointer (some ⟨z3, 0, none⟩), .pointer (some ⟨Bx, 0, none⟩),
      .agg #[.int .i64 b.ms, .int .i64 b.ht, .slice A N c], .func (.func 126) #[] #[.pointer (some ⟨z4, 0, none⟩)], .agg (pgCells x.1 x.2.1.1 x.2.1.2.1 x.2.1.2.2 x.2.2.1 x.2.2.2.1 x.2.2.2.2), undef, undef, undef, undef, undef, undef], defers := [] }
/-- A page and a bool are stored. -/
structure St6 (W Y : World) (z2 z3 : Nat) (cs : Array Value) (u : Value) : Prop where
  size : Y.heap.size = W.heap.size
  keep : ∀ j, j ≠ z2 → j ≠ z3 → Y.heap[j]? = W.heap[j]?
  ext : ∀ a : World, a.heap.size ≤ z2 → a.heap.size ≤ z3 → Ext a W → Ext a Y
  h2 : Y.heap[z2]? = some (.cells cs 84 (0, 0))
  h3 : Y.heap[z3]? = some (.cells #[u] 4 (0, 0))
theorem st6 {W : World} {z2 z3 : Nat} (hne : z2 ≠ z3) {a0 a1 a2 a3 a4 a5 x : Value} (h2 : W.heap[z2]? = some (.cells #[a0, a1, a2, a3, a4, a5] 84 (0, 0))) (h3 : W.heap[z3]? = some (.cells #[x] 4 (0, 0))) (v0 v1 v2 v3 v4 v5 u : Value) :
    St6 W (((((((W.setCell ⟨z2, 0, none⟩ v0).setCell ⟨z2, 1, none⟩ v1).setCell ⟨z2, 2, none⟩ v2).setCell ⟨z2, 3, none⟩ v3).setCell ⟨z2, 4, none⟩ v4).setCell ⟨z2, 5, none⟩ v5).setCell ⟨z3, 0, none⟩ u) z2 z3 #[v0, v1, v2, v3, v4, v5] u := by
  refine ⟨by simp, fun j k2 k3 => ?_, fun a l2 l3 hx => ?_, ?_, ?_⟩
  · rw [heap_setCell_other _ ⟨z3, 0, none⟩ j _ k3, heap_setCell_other _ ⟨z2, 5, none⟩ j _ k2, heap_setCell_other _ ⟨z2, 4, none⟩ j _ k2, heap_setCell_other _ ⟨z2, 3, none⟩ j _ k2, heap_setCell_other _ ⟨z2, 2, none⟩ j _ k2, heap_setCell_other _ ⟨z2, 1, none⟩ j _ k2, heap_setCell_other _ ⟨z2, 0, none⟩ j _ k2]
  · exact (((((((hx.setCell (p := ⟨z2, 0, none⟩) l2 _).setCell (p := ⟨z2, 1, none⟩) l2 _).setCell (p := ⟨z2, 2, none⟩) l2 _).setCell (p := ⟨z2, 3, none⟩) l2 _).setCell (p := ⟨z2, 4, none⟩) l2 _).setCell (p := ⟨z2, 5, none⟩) l2 _).setCell (p := ⟨z3, 0, none⟩) l3 _)
  · rw [heap_setCell_other _ ⟨z3, 0, none⟩ z2 _ hne]
    exact heap_setCell_same _ z2 5 _ 84 _ (heap_setCell_same _ z2 4 _ 84 _ (heap_setCell_same _ z2 3 _ 84 _ (heap_setCell_same _ z2 2 _ 84 _ (heap_setCell_same _ z2 1 _ 84 _ (heap_setCell_same _ z2 0 _ 84 _ h2)))))
  · have h9 : ((((((W.setCell ⟨z2, 0, none⟩ v0).setCell ⟨z2, 1, none⟩ v1).setCell ⟨z2, 2, none⟩ v2).setCell ⟨z2, 3, none⟩ v3).setCell ⟨z2, 4, none⟩ v4).setCell ⟨z2, 5, none⟩ v5).heap[z3]? = some (.cells #[x] 4 (0, 0)) := by
      rw [heap_setCell_other _ ⟨z2, 5, none⟩ z3 _ hne.symm, heap_setCell_other _ ⟨z2, 4, none⟩ z3 _ hne.symm, heap_setCell_other _ ⟨z2, 3, none⟩ z3 _ hne.symm, heap_setCell_other _ ⟨z2, 2, none⟩ z3 _ hne.symm, heap_setCell_other _ ⟨z2, 1, none⟩ z3 _ hne.symm, heap_setCell_other _ ⟨z2, 0, none⟩ z3 _ hne.symm]
      exact h3
    exact heap_setCell_same _ z3 0 _ 4 u h9
theorem find_snoc {p : PgV → Pg} {xs : List PgV} {f : Pg → Bool} (h : (xs.map p).find? f = none) (y : PgV) : ((xs ++ [y]).map p).find? f = if f (p y) = true then some (p y) else none := by
  rw [List.map_append, List.find?_append, h]
  simp only [List.map_cons, List.map_nil, List.find?_cons, List.find?_nil, Option.none_or]
  split <;> simp_all
set_option maxHeartbeats 4000000 in
set_option maxRecDepth 100000 in
theorem page_any (P : Nat → Prop) (w : World) (b : Bk) (num suf : Int) (A : Option Addr) (N c : Nat) (hb : BkI b) (hr : kSe.row w P A N b.secs) (hL : EnvW w) :
    Calls Tryz.prog 91 #[.agg #[.int .i64 b.ms, .int .i64 b.ht, .slice A N c], .agg #[.int .i64 num, .int .i64 suf]] w (PagePost w b num suf) := by
  refine (callsIn_wide (n := 5)).1 ?_
  refine callsIn_of_wp_marks Tryz.func91 rfl trivial ?_ rfl
  simp only [Tryz.ntmps91, List.size_toArray, List.length_cons, List.length_nil, Nat.reduceAdd, Nat.reduceSub, Array.replicate_succ, Array.replicate_zero, List.push_toArray, List.append_toArray, List.nil_append, List.cons_append]
  refine wpIn_wide.2 ?_
  go_wp2_with (first | (go_at_call 73; refine (all_any _ _ _ _ _ _).mono ?_; rintro e w' ⟨rfl, rfl⟩))
  obtain ⟨wl, hwl⟩ : ∃ wl, (((((w.alloc (Obj.cells #[Value.int IntKind.i64 b.ms, Value.int IntKind.i64 b.ht, Value.slice A N c] 27)).alloc (Obj.cells #[Value.int IntKind.i64 num, Value.int IntKind.i64 suf] 64)).alloc
              (Obj.cells #[Value.int IntKind.i64 0, Value.int IntKind.i64 0, Value.int IntKind.i64 0, Value.int IntKind.i64 0, Value.slice none 0 0, Value.slice none 0 0] 84)).alloc (Obj.cells #[Value.bool false] 4)).alloc
      (Obj.cells #[Value.int IntKind.i64 b.ms, Value.int IntKind.i64 b.ht, Value.slice A N c] 27)) = wl := ⟨_, rfl⟩
  obtain ⟨z4, hz4⟩ : ∃ z, w.heap.size + 1 + 1 + 1 + 1 = z := ⟨_, rfl⟩
  obtain ⟨z3, hz3⟩ : ∃ z, w.heap.size + 1 + 1 + 1 = z := ⟨_, rfl⟩
  obtain ⟨z2, hz2⟩ : ∃ z, w.heap.size + 1 + 1 = z := ⟨_, rfl⟩
  obtain ⟨z1, hz1⟩ : ∃ z, w.heap.size + 1 = z := ⟨_, rfl⟩
  rw [hwl, hz4, hz3, hz2, hz1]
  have hsz : wl.heap.size = w.heap.size + 5 := by rw [← hwl]; simp
  have hxl : Ext w wl := by rw [← hwl]; exact (((((Ext.refl w).alloc _).alloc _).alloc _).alloc _).alloc _
  have hB4 : wl.heap[w.heap.size + 4]? = some (.cells #[.int .i64 b.ms, .int .i64 b.ht, .slice A N c] 27 (0, 0)) := by rw [← hwl]; exact heap_alloc_at _ _ _ _ (by simp)
  have hB3 : wl.heap[w.heap.size + 3]? = some (.cells #[.bool false] 4 (0, 0)) := by rw [← hwl, heap_alloc_old _ _ _ (by simp)]; exact heap_alloc_at _ _ _ _ (by simp)
  have hB2 : wl.heap[w.heap.size + 2]? = some (.cells (pgCells ⟨0, 0, 0, 0, [], []⟩ none 0 0 none 0 0) 84 (0, 0)) := by rw [← hwl, heap_alloc_old _ _ _ (by simp), heap_alloc_old _ _ _ (by simp)]; exact heap_alloc_at _ _ _ _ (by simp)
  have hB1 : wl.heap[w.heap.size + 1]? = some (.cells #[.int .i64 num, .int .i64 suf] 64 (0, 0)) := by rw [← hwl, heap_alloc_old _ _ _ (by simp), heap_alloc_old _ _ _ (by simp), heap_alloc_old _ _ _ (by simp)]; exact heap_alloc_at _ _ _ _ (by simp)
  have HSEQ := all1_seq 4 wl b z4 A N c (fun j => j < w.heap.size ∨ j = z4) hb (fun j hj => by omega) (.inl hL.lt4) (.inr rfl) (by rw [← hz4]; exact hB4) (Lay.row_mono (Lay.row_ext (Lay.row_mono (Q := fun j => j < w.heap.size) hr fun j _ hl => hl) hxl) fun j hj _ => .inl hj) (hL.ext hxl)
  have HZ := Lib.hid (show z1 = w.heap.size + 1 ∧ z2 = w.heap.size + 2 ∧ z3 = w.heap.size + 3 ∧ z4 = w.heap.size + 4 by omega)
  clear hwl hz1 hz2 hz3 hz4
  refine (wpIn_wide (n := 5)).1 ?_
  have HQ4 := Lib.hid (show ∀ j, (j < w.heap.size ∨ j = z4) → j < wl.heap.size ∧ (j < w.heap.size ∨ j = w.heap.size + 4) from fun j hj => by have := HZ.out; omega)
  refine rangeH (n := 5) rfl (by omega) (gf := 126) (lb := #[.pointer (some ⟨z4, 0, none⟩)]) rfl trivial (enters_of Tryz.func126 (by kernel_rfl) rfl) HSEQ (fun x => rfl) (fun _ _ _ _ _ => pgRp_put) (PgI w num suf) (PgX w num suf) (PgI.ab hsz) (PgX.ab hsz)
    (fun s q W o' h => h.put hsz) (fun cc s q W o' h => h.put hsz (.inl rfl)) (fun j hj => (HQ4.out j hj).1) (fun s q W h j hj => by have := h.q j hj; omega) (fun W hx hs => ⟨hxl.trans hx, by omega, fun j hj => by have := (HQ4.out j hj).2; omega, (hx.block _ (by omega)).trans hB1, (hx.block _ (by omega)).trans hB2, (hx.block _ (by omega)).trans hB3, rfl⟩)
    (PgAx w z1 z2 z3 z4 b num suf A N c) (fun _ _ _ _ _ h => ?ap) (fun q x W W' h hx => pgRp_ext h hx) ?assign ?body ?done ?stop
  case ap =>
    obtain ⟨Bx, h1, h2, h3⟩ := h
    exact ⟨Bx, h1, (World.putObj_heap_other (by omega)).trans h2, h3⟩
  case assign =>
    rintro l ⟨pg, ⟨A7, n7, c7⟩, ⟨A8, n8, c8⟩⟩ q W K hrp hlen hqs hK
    dsimp only [pgEnc]
    gi_wp2
    exact hK _ _ ((Ext.refl W).alloc _) ⟨W.heap.size, by omega, heap_alloc_at _ _ _ _ rfl, rfl⟩
  case body =>
    rintro pre ⟨pg, ⟨A7, n7, c7⟩, ⟨A8, n8, c8⟩⟩ q a' W hI hrp ⟨Bx, hBx, hB, rfl⟩ hqs hlen _
    unfold pgCells at hB ⊢
    dsimp only at hB ⊢
    have c0 := cell_of hB (i := 0) (u := .int .i64 pg.num) rfl
    have c1 := cell_of hB (i := 1) (u := .int .i64 pg.suf) rfl
    have c2 := cell_of hB (i := 2) (u := .int .i64 pg.ent) rfl
    have c3 := cell_of hB (i := 3) (u := .int .i64 pg.ver) rfl
    have c4 := cell_of hB (i := 4) (u := .slice A7 n7 c7) rfl
    have c5 := cell_of hB (i := 5) (u := .slice A8 n8 c8) rfl
    obtain ⟨hz1, hz2, hz3, hz4⟩ := HZ.out
    have hR := hI.r
    have hBb := hI.b
    have hLb := hI.l
    rw [← hz2] at hR
    rw [← hz3] at hBb
    rw [← hz1] at hLb
    have n1 : z2 ≠ z3 := by omega
    have n2 : z3 ≠ z2 := by omega
    clear hz1 hz2 hz3 hz4
    have f0 := frozen_of hR 0
    have f1 := frozen_of hR 1
    have f2 := frozen_of hR 2
    have f3 := frozen_of hR 3
    have f4 := frozen_of hR 4
    have f5 := frozen_of hR 5
    have f6 := frozen_of hBb 0
    have r0 := cell_of hR (i := 0) (u := .int .i64 0) rfl
    have r1 := cell_of hR (i := 1) (u := .int .i64 0) rfl
    have r2 := cell_of hR (i := 2) (u := .int .i64 0) rfl
    have r3 := cell_of hR (i := 3) (u := .int .i64 0) rfl
    have r4 := cell_of hR (i := 4) (u := .slice none 0 0) rfl
    have r5 := cell_of hR (i := 5) (u := .slice none 0 0) rfl
    have r6 := cell_of hBb (i := 0) (u := .bool false) rfl
    have HRB := Lib.hid (And.intro hR hBb)
    have l0 := cell_of hLb (i := 0) (u := .int .i64 num) rfl
    have l1 := cell_of hLb (i := 1) (u := .int .i64 suf) rfl
    have HI := Lib.hid hI
    have HRP := Lib.hid hrp
    have HQS := Lib.hid hqs
    have HBX := Lib.hid hB
    clear hI hrp hqs hB hB1 hB2 hB3 hB4 hR hBb hLb HSEQ
    by_cases h1 : pg.num = num
    · by_cases h2 : pg.suf = suf
      · have g1 : (pg.num == num) = true := by simpa using h1
        have g2 : (pg.suf == suf) = true := by simpa using h2
        have H1 := Lib.hid h1
        have H2 := Lib.hid h2
        clear h1 h2
        gi_wp2
        obtain ⟨Y, hY⟩ : ∃ Y, (((((((W.setCell ⟨z2, 0, none⟩ (.int .i64 pg.num)).setCell ⟨z2, 1, none⟩ (.int .i64 pg.suf)).setCell ⟨z2, 2, none⟩ (.int .i64 pg.ent)).setCell ⟨z2, 3, none⟩ (.int .i64 pg.ver)).setCell ⟨z2, 4, none⟩ (.slice A7 n7 c7)).setCell ⟨z2, 5, none⟩ (.slice A8 n8 c8)).setCell ⟨z3, 0, none⟩ (.bool true)) = Y := ⟨_, rfl⟩
        have hs6 := st6 n1 HRB.out.1 HRB.out.2 (.int .i64 pg.num) (.int .i64 pg.suf) (.int .i64 pg.ent) (.int .i64 pg.ver) (.slice A7 n7 c7) (.slice A8 n8 c8) (.bool true)
        rw [hY] at hs6 ⊢
        obtain ⟨hz1, hz2, hz3, hz4⟩ := HZ.out
        obtain ⟨k1, k2, k3, k4, _⟩ := HRP.out
        have hI := HI.out
        refine ⟨⟨hs6.keep _ (by omega) (by omega), hs6.keep _ (by omega) (by omega)⟩, ⟨rfl, hs6.ext w (by omega) (by omega) hI.x, by rw [hs6.size]; omega, ⟨pg, A7, n7, c7, A8, n8, c8, ?_, k1, k2, ?_, ?_, by rw [← hz2]; exact hs6.h2⟩, by rw [← hz3]; exact hs6.h3⟩⟩
        · rw [find_snoc hI.n]
          exact if_pos (by simp [lbIs, H1.out, H2.out])
        · exact Lay.row_mono (Lay.row_keep k3 (by rw [hs6.size]; omega) fun j hj hl => hs6.keep j (by omega) (by omega)) fun j hj hl => (by have := hI.q j hj.1.1; omega)
        · exact Lay.row_mono (Lay.row_keep k4 (by rw [hs6.size]; omega) fun j hj hl => hs6.keep j (by omega) (by omega)) fun j hj hl => (by have := hI.q j hj.1.1; omega)
      · have g1 : (pg.num == num) = true := by simpa using h1
        have g2 : (pg.suf == suf) = false := by simpa using h2
        have H2 := Lib.hid h2
        clear h1 h2
        gi_wp2
        have hI := HI.out
        exact ⟨⟨rfl, rfl⟩, fun _ _ => rfl, ⟨hI.x, hI.s, hI.q, hI.l, hI.r, hI.b, by rw [find_snoc hI.n]; exact if_neg (by simp [lbIs, H2.out])⟩⟩
    · have g1 : (pg.num == num) = false := by simpa using h1
      have H1 := Lib.hid h1
      clear h1
      gi_wp2
      have hI := HI.out
      exact ⟨⟨rfl, rfl⟩, fun _ _ => rfl, ⟨hI.x, hI.s, hI.q, hI.l, hI.r, hI.b, by rw [find_snoc hI.n]; exact if_neg (by simp [lbIs, H1.out])⟩⟩
  case done =>
    intro xs q W hS hI hK
    obtain ⟨hz1, hz2, hz3, hz4⟩ := HZ.out
    have hR := hI.r
    have hBb := hI.b
    have hLb := hI.l
    rw [← hz2] at hR
    rw [← hz3] at hBb
    rw [← hz1] at hLb
    have n1 : z2 ≠ z3 := by omega
    have n2 : z3 ≠ z2 := by omega
    clear hz1 hz2 hz3 hz4
    have f0 := frozen_of hR 0
    have f1 := frozen_of hR 1
    have f2 := frozen_of hR 2
    have f3 := frozen_of hR 3
    have f4 := frozen_of hR 4
    have f5 := frozen_of hR 5
    have f6 := frozen_of hBb 0
    have r0 := cell_of hR (i := 0) (u := .int .i64 0) rfl
    have r1 := cell_of hR (i := 1) (u := .int .i64 0) rfl
    have r2 := cell_of hR (i := 2) (u := .int .i64 0) rfl
    have r3 := cell_of hR (i := 3) (u := .int .i64 0) rfl
    have r4 := cell_of hR (i := 4) (u := .slice none 0 0) rfl
    have r5 := cell_of hR (i := 5) (u := .slice none 0 0) rfl
    have r6 := cell_of hBb (i := 0) (u := .bool false) rfl
    have HRB := Lib.hid (And.intro hR hBb)
    have HI := Lib.hid hI
    have HK := Lib.hid hK
    clear hI hK hB1 hB2 hB3 hB4 HSEQ hR hBb hLb
    gi_wp2
    go_wp2_with fail
    obtain ⟨Y, hY⟩ : ∃ Y, (((((((W.setCell ⟨z2, 0, none⟩ (.int .i64 0)).setCell ⟨z2, 1, none⟩ (.int .i64 0)).setCell ⟨z2, 2, none⟩ (.int .i64 0)).setCell ⟨z2, 3, none⟩ (.int .i64 0)).setCell ⟨z2, 4, none⟩ (.slice none 0 0)).setCell ⟨z2, 5, none⟩ (.slice none 0 0)).setCell ⟨z3, 0, none⟩ (.bool false)) = Y := ⟨_, rfl⟩
    have hs6 := st6 n1 HRB.out.1 HRB.out.2 (.int .i64 0) (.int .i64 0) (.int .i64 0) (.int .i64 0) (.slice none 0 0) (.slice none 0 0) (.bool false)
    rw [hY] at hs6 ⊢
    obtain ⟨Z, hZ⟩ : ∃ Z, Y.putObj wl.heap.size (.deferred none) = Z := ⟨_, rfl⟩
    obtain ⟨hz1, hz2, hz3, hz4⟩ := HZ.out
    have hZ2 : Z.heap[z2]? = Y.heap[z2]? := by rw [← hZ]; exact World.putObj_heap_other (by omega)
    have hZ3 : Z.heap[z3]? = Y.heap[z3]? := by rw [← hZ]; exact World.putObj_heap_other (by omega)
    have hKY : Y.heap[wl.heap.size]? = some (.deferred (some [])) := (hs6.keep _ (by omega) (by omega)).trans HK.out
    have hxZ : Ext w Z := by rw [← hZ]; exact (hs6.ext w (by omega) (by omega) HI.out.x).putObj (by omega) _
    have q0 := cell_of (hZ2.trans hs6.h2) (i := 0) rfl
    have q1 := cell_of (hZ2.trans hs6.h2) (i := 1) rfl
    have q2 := cell_of (hZ2.trans hs6.h2) (i := 2) rfl
    have q3 := cell_of (hZ2.trans hs6.h2) (i := 3) rfl
    have q4 := cell_of (hZ2.trans hs6.h2) (i := 4) rfl
    have q5 := cell_of (hZ2.trans hs6.h2) (i := 5) rfl
    have q6 := cell_of (hZ3.trans hs6.h3) (i := 0) rfl
    refine ⟨by simp, .inl ⟨_, _, rfl, run_takeDeferred hKY, ?_⟩⟩
    rw [hZ]
    refine ⟨.tuple #[.agg #[.int .i64 0, .int .i64 0, .int .i64 0, .int .i64 0, .slice none 0 0, .slice none 0 0], .bool false], by simp [results, Tryz.results91, go_sem, q0, q1, q2, q3, q4, q5, q6], .inl ⟨?_, rfl, hxZ⟩⟩
    have := HI.out.n
    rw [hS] at this
    exact this
  case stop =>
    intro cc pre q W hS hX hK
    obtain rfl := hX.c
    have HX := Lib.hid hX
    have HK := Lib.hid hK
    clear hX hK
    gi_wp2
    obtain ⟨Y, hY⟩ : ∃ Y, W = Y := ⟨_, rfl⟩
    rw [hY] at HX HK ⊢
    obtain ⟨Z, hZ⟩ : ∃ Z, Y.putObj wl.heap.size (.deferred none) = Z := ⟨_, rfl⟩
    obtain ⟨hz1, hz2, hz3, hz4⟩ := HZ.out
    have hZ2 : Z.heap[z2]? = Y.heap[z2]? := by rw [← hZ]; exact World.putObj_heap_other (by omega)
    have hZ3 : Z.heap[z3]? = Y.heap[z3]? := by rw [← hZ]; exact World.putObj_heap_other (by omega)
    have hXZ : PgX w num suf .ret pre q Z := by rw [← hZ]; exact HX.out.put hsz (.inr rfl)
    obtain ⟨p, A7, n7, c7, A8, n8, c8, h1, h2, h3, h4, h5, h6⟩ := hXZ.p
    rw [← hz2] at h6
    have h7 := hXZ.b
    rw [← hz3] at h7
    unfold pgCells at h6
    have q0 := cell_of h6 (i := 0) rfl
    have q1 := cell_of h6 (i := 1) rfl
    have q2 := cell_of h6 (i := 2) rfl
    have q3 := cell_of h6 (i := 3) rfl
    have q4 := cell_of h6 (i := 4) rfl
    have q5 := cell_of h6 (i := 5) rfl
    have q6 := cell_of h7 (i := 0) rfl
    refine ⟨by simp, .inl ⟨_, _, by rw [← hsz], run_takeDeferred HK.out, ?_⟩⟩
    rw [hZ]
    refine ⟨.tuple #[.agg #[.int .i64 p.num, .int .i64 p.suf, .int .i64 p.ent, .int .i64 p.ver, .slice A7 n7 c7, .slice A8 n8 c8], .bool true], by simp [results, Tryz.results91, go_sem, q0, q1, q2, q3, q4, q5, q6], .inr ⟨p, A7, n7, c7, A8, n8, c8, ?_, rfl, h2, h3, Lay.row_mono h4 fun j hj _ => (by omega), Lay.row_mono h5 fun j hj _ => (by omega), hXZ.x⟩⟩
    obtain ⟨R, hR⟩ := hS
    show (pagesB b).find? (lbIs num suf) = some p
    rw [← hR, List.find?_append, h1]
    rfl
end Go.Proofs.YtdbnddmncbjobaaGreatDoor

/- The reference's sizes: walked. -/
namespace Go.Proofs.YtdbnddmncbjobaaGreatDoor
open Go Go.RowKit

def RzL (m : Nat) (s4 : Value) (w w' : World) : Prop := ∃ i : Nat, i ≤ m ∧ s4 = .int .i64 i ∧ w = w'
set_option maxHeartbeats 4000000 in
set_option maxRecDepth 100000 in
theorem rsizes_any (P : Nat → Prop) (w : World) (t : Tx) (A A' : Option Addr) (n n' c c' : Nat) (h1 : kWs.row w P A n t.paras) (h2 : kWs.row w P A' n' t.notes) (hv : ChkT t) :
    Calls Tryz.prog 209 #[.agg #[.slice A n c, .slice A' n' c']] w (fun e w' => e = .returned (.int .i64 0) ∧ Ext w w') := by
  have HE1 := Lay.row_len h1
  have HE2 := Lay.row_len h2
  have b1 := hv.np
  have b2 := hv.nn
  have HV := Lib.hid hv.len
  clear hv
  obtain ⟨m, hm⟩ : ∃ m, n + n' = m := ⟨_, rfl⟩
  obtain ⟨W0, hW0⟩ : ∃ W0, w.alloc (.cells #[.slice A n c, .slice A' n' c'] 53) = W0 := ⟨_, rfl⟩
  obtain ⟨z, hz⟩ : ∃ z, w.heap.size = z := ⟨_, rfl⟩
  have hx0 : Ext w W0 := by rw [← hW0]; exact (Ext.refl w).alloc _
  have hB0 : W0.heap[z]? = some (.cells #[.slice A n c, .slice A' n' c'] 53 (0, 0)) := by rw [← hW0, ← hz]; exact heap_alloc_at _ _ _ _ rfl
  obtain ⟨A1, c1, w1, r1, o1, x1⟩ := own_app (k := kWs) (Pr := Tryz.prog) (t := 51) (e := 54) Tryz.underlying51 info54 rfl (by decide) (by omega) (Lay.own_nil kWs 54 W0 W0.heap.size P) (Ext.refl W0) (Lay.row_ext h1 hx0) c (by simp; omega)
  simp only [List.length_nil, Nat.zero_add, List.nil_append] at r1 o1
  obtain ⟨A2, c2, w2, r2, o2, x2⟩ := own_app (k := kWs) (Pr := Tryz.prog) (t := 51) (e := 54) Tryz.underlying51 info54 rfl (by decide) (by omega) o1 x1 (Lay.row_ext h2 hx0) c' (by omega)
  rw [← HE1, hm] at r2 o2
  obtain ⟨A3, c3, e3, _, hr⟩ := Lay.own_row o2
  have e3a := (Value.slice.inj e3).1
  have e3b := (Value.slice.inj e3).2.1
  rw [← e3a, ← e3b] at hr
  have HR := Lib.hid hr
  have HX2 := Lib.hid (hx0.trans x2)
  have HL := Lib.hid e3b
  have a0 := cell_of hB0 (i := 0) (u := .slice A n c) rfl
  have a1 := cell_of hB0 (i := 1) (u := .slice A' n' c') rfl
  have d1 := cell_of ((x1.block z (lt_of_block hB0)).trans hB0) (i := 1) (u := .slice A' n' c') rfl
  have HR1 := Lib.hid r1
  have HR2 := Lib.hid r2
  have n1 : ¬ (100 : Int) < (n : Int) := by omega
  have n2 : ¬ (100 : Int) < (n' : Int) := by omega
  have hmb : m ≤ 200 := by omega
  clear h1 h2 hx0 hB0 r1 o1 x1 r2 o2 x2 e3 e3a e3b hr HE1 HE2 hm
  go_enter Tryz.func209, Tryz.ntmps209
  go_upto_region 1 with (fail)
  try rw [hW0]
  try rw [hz]
  go_wp2_with (first | (at_builtin; refine wpList_append_run (s := .tmp 16) (x := .tmp 18) HR1.out rfl rfl rfl rfl rfl ?_) | (at_builtin; refine wpList_append_run (s := .tmp 20) (x := .tmp 22) HR2.out rfl rfl rfl rfl rfl ?_))
  go_loopw [4] (fun s4 w' => RzL m s4 w2 w') (fun s4 _ => toM m s4)
  case atStart => exact ⟨0, by omega, rfl, rfl⟩
  case round =>
    obtain ⟨i, hi, rfl, rfl⟩ := hrel
    by_cases hlt : i < m
    case pos =>
      have hI : (i : Int) < (m : Int) := by omega
      obtain ⟨p, hp⟩ : ∃ p, (t.paras ++ t.notes)[i]? = some p := ⟨_, List.getElem?_eq_getElem (by have := HL.out; omega)⟩
      have hpl := (HV.out p (List.mem_of_getElem? hp)).2
      obtain ⟨gb, off, cs, rfl, hgb, _, hrep, hcell⟩ := Lay.row_at HR.out hp
      obtain ⟨Ap, cp, rfl, _, _⟩ := kWs_rep.1 hrep
      have hcl := hcell 0 _ rfl
      rw [kWs_sz, Nat.mul_one, Nat.add_zero] at hcl
      have n3 : ¬ (500 : Int) < (p.length : Int) := by omega
      clear hp hrep hcell
      go_wp2_with fail
      go_roundw
      case rel => exact ⟨i + 1, by omega, by simp, rfl⟩
      case measure => simp only [toM]; omega
    obtain rfl : i = m := by omega
    have hni : ¬ ((i : Int) < (i : Int)) := by omega
    go_wp2_with fail
    rename World => wr
    go_loopw [5] (fun s5 w' => RzL i s5 wr w') (fun s5 _ => toM i s5)
    case atStart => exact ⟨0, by omega, rfl, rfl⟩
    case round =>
      obtain ⟨q, hq, rfl, rfl⟩ := hrel
      by_cases hql : q < i
      case pos =>
        have hI : (q : Int) < (i : Int) := by omega
        obtain ⟨p, hp⟩ : ∃ p, (t.paras ++ t.notes)[q]? = some p := ⟨_, List.getElem?_eq_getElem (by have := HL.out; omega)⟩
        have hpl := (HV.out p (List.mem_of_getElem? hp)).1
        obtain ⟨gb, off, cs, rfl, hgb, _, hrep, hcell⟩ := Lay.row_at HR.out hp
        obtain ⟨Ap, cp, rfl, _, _⟩ := kWs_rep.1 hrep
        have hcl := hcell 0 _ rfl
        rw [kWs_sz, Nat.mul_one, Nat.add_zero] at hcl
        have n3 : ((p.length : Int) == 0) = false := by rw [beq_eq_false_iff_ne]; omega
        have n4 : ¬ (p.length : Int) = 0 := by omega
        clear hp hrep hcell hpl
        go_wp2_with fail
        go_roundw
        case rel => exact ⟨q + 1, by omega, by simp, rfl⟩
        case measure => simp only [toM]; omega
      obtain rfl : q = i := by omega
      go_wp2_with fail
      go_ret
      exact ⟨rfl, HX2.out⟩
end Go.Proofs.YtdbnddmncbjobaaGreatDoor
