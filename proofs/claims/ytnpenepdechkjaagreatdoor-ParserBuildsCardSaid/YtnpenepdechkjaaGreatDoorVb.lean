/- The references' Decimal, padded and Print. -/
import Derived.Test.YtnpenepdechkjaaGreatDoorVa
import Derived.Lib.ItoaNum
namespace Go.Proofs.YtnpenepdechkjaaGreatDoor
open Go Go.RowKit

def DecRel (n : Nat) (s k : Value) : Prop := ∃ (u : Nat) (t : ByteArray), u ≤ n ∧ k = .int .i64 u ∧ s = .string t ∧ t.size ≤ n - u ∧ (if u = 0 then t.data.toList = Lib.decDigits n else Lib.decDigits u ++ t.data.toList = Lib.decDigits n)
def decM (k : Value) : Nat := match k with | .int _ z => z.toNat | _ => 0
theorem dig_list {d : Nat} (h : d < 10) : ((⟨#[48, 49, 50, 51, 52, 53, 54, 55, 56, 57]⟩ : ByteArray).extract d (d + 1)).data.toList = [UInt8.ofNat (48 + d)] := by
  rcases (by omega : d = 0 ∨ d = 1 ∨ d = 2 ∨ d = 3 ∨ d = 4 ∨ d = 5 ∨ d = 6 ∨ d = 7 ∨ d = 8 ∨ d = 9) with rfl | rfl | rfl | rfl | rfl | rfl | rfl | rfl | rfl | rfl <;> decide
theorem dec_done {n : Nat} {t : ByteArray} (h : if (0 : Nat) = 0 then t.data.toList = Lib.decDigits n else Lib.decDigits 0 ++ t.data.toList = Lib.decDigits n) : t = ⟨(Lib.decDigits n).toArray⟩ := by
  rw [if_pos rfl] at h
  rw [← h]
theorem dec_step {n u : Nat} {t : ByteArray} (hu : ¬ u = 0) (h : if u = 0 then t.data.toList = Lib.decDigits n else Lib.decDigits u ++ t.data.toList = Lib.decDigits n) :
    if u / 10 = 0 then ((⟨#[48, 49, 50, 51, 52, 53, 54, 55, 56, 57]⟩ : ByteArray).extract (u % 10) (u % 10 + 1) ++ t).data.toList = Lib.decDigits n else Lib.decDigits (u / 10) ++ ((⟨#[48, 49, 50, 51, 52, 53, 54, 55, 56, 57]⟩ : ByteArray).extract (u % 10) (u % 10 + 1) ++ t).data.toList = Lib.decDigits n := by
  rw [if_neg hu] at h
  have hd := dig_list (Nat.mod_lt u (show 10 > 0 by omega))
  have ha : ((⟨#[48, 49, 50, 51, 52, 53, 54, 55, 56, 57]⟩ : ByteArray).extract (u % 10) (u % 10 + 1) ++ t).data.toList = [UInt8.ofNat (48 + u % 10)] ++ t.data.toList := by
    rw [ByteArray.data_append, Array.toList_append, hd]
  rw [ha, ← h]
  by_cases hq : u < 10
  · rw [if_pos (by omega), Lib.decDigits_one hq, show u % 10 = u by omega]
  · rw [if_neg (by omega)]
    conv => rhs; rw [Lib.decDigits, dif_neg hq]
    simp
theorem dec_size {n u : Nat} {t : ByteArray} (hu : ¬ u = 0) (hn : u ≤ n) (h : t.size ≤ n - u) : ((⟨#[48, 49, 50, 51, 52, 53, 54, 55, 56, 57]⟩ : ByteArray).extract (u % 10) (u % 10 + 1) ++ t).size ≤ n - u / 10 := by
  rw [ByteArray.size_append, ByteArray.size_extract]
  have : u / 10 < u := Nat.div_lt_self (by omega) (by omega)
  omega

set_option maxRecDepth 100000 in
theorem dec59_any (n : Nat) (w : World) (hn : n ≤ 2147483647) : Calls Tryz.prog 59 #[.int .i64 n] w fun e w' => e = .returned (.string ⟨(Lib.decDigits n).toArray⟩) ∧ w = w' := by
  by_cases h0 : n = 0
  · subst h0
    have hd : (⟨#[48]⟩ : ByteArray) = ⟨(Lib.decDigits 0).toArray⟩ := by rw [Lib.decDigits_one (by omega)]; rfl
    have HD := Lib.hid hd; clear hd
    go_enter Tryz.func59, Tryz.ntmps59
    go_wp2
    go_ret
    exact ⟨congrArg (fun z => Ending.returned (.string z)) HD.out, rfl⟩
  · have hne : ((n : Int) == 0) = false := by rw [beq_eq_false_iff_ne]; omega
    go_enter Tryz.func59, Tryz.ntmps59
    go_wp2
    go_loop [4, 5] (fun s k => DecRel n s k) (fun _ k => decM k)
    case atStart => exact ⟨n, ByteArray.empty, Nat.le_refl _, rfl, rfl, by simp, by rw [if_neg h0]; simp⟩
    case round =>
      obtain ⟨u, t, hu, rfl, rfl, hts, ht⟩ := hrel
      have HT := Lib.hid ht; clear ht
      by_cases hu0 : u = 0
      · subst hu0
        have hz : ((((0 : Nat) : Int)) != 0) = false := by decide
        have hnn : ¬ (n : Int) < 0 := by omega
        go_wp2
        go_ret
        exact ⟨congrArg (fun z => Ending.returned (.string z)) (dec_done HT.out), rfl⟩
      · have hz : ((u : Int) != 0) = true := by rw [bne_iff_ne]; omega
        have hm := Int.emod_nonneg (u : Int) (show (10 : Int) ≠ 0 by omega)
        have hm2 := Int.emod_lt_of_pos (u : Int) (show (0 : Int) < 10 by omega)
        have hm3 : min (u % 10 + 1) 10 - u % 10 + t.size ≤ 9223372036854775807 := by omega
        have hlt : u / 10 < u := Nat.div_lt_self (by omega) (by omega)
        have hst := dec_step (n := n) hu0 HT.out
        have HST := Lib.hid hst; clear hst
        go_wp2
        exact ⟨⟨u / 10, _, by omega, by simp, rfl, dec_size hu0 hu hts, HST.out⟩, by simp [decM]; omega⟩

end Go.Proofs.YtnpenepdechkjaaGreatDoor
