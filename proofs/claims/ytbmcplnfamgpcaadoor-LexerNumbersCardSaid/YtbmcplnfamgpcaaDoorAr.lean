/- The contracts of Around, Pick, Decimal. -/
import Derived.Test.YtbmcplnfamgpcaaDoorLc
import Derived.Lib.ItoaNum
namespace Go.Proofs.YtbmcplnfamgpcaaDoor
open Go Go.RowKit

theorem neg_tmod_in (n m : Int) (h : n < 0) (h3 : 1 ≤ m) : (n + 1).tmod m ≤ 0 ∧ -(n + 1).tmod m < m := by
  have e : -((n + 1).tmod m) = (-(n + 1)) % m := by rw [← Int.neg_tmod, Int.tmod_eq_emod_of_nonneg (by omega)]
  have hb1 := Int.emod_nonneg (-(n + 1)) (show m ≠ 0 by omega)
  have hb2 := Int.emod_lt_of_pos (-(n + 1)) (show 0 < m by omega)
  omega
def arnd (n m : Int) : Int := (if n < 0 then -(n + 1) else n) % m
theorem arnd_in (n m : Int) (h : 1 ≤ m) : 0 ≤ arnd n m ∧ arnd n m < m :=
  ⟨Int.emod_nonneg _ (by omega), Int.emod_lt_of_pos _ (by omega)⟩
theorem arnd_neg {n m : Int} (h : n < 0) : -((n + 1).tmod m) = arnd n m := by
  unfold arnd
  rw [if_pos h, ← Int.neg_tmod, Int.tmod_eq_emod_of_nonneg (by omega)]
theorem arnd_pos {n m : Int} (h : ¬ n < 0) : n % m = arnd n m := by unfold arnd; rw [if_neg h]
theorem around_fn (n m : Int) (w : World) (h1 : -9223372036854775808 ≤ n) (h2 : n ≤ 9223372036854775807) (h3 : 1 ≤ m) (h4 : m ≤ 4000000000) :
    Calls Tryd.prog 18 #[.int .i64 n, .int .i64 m] w fun e w' => e = .returned (.int .i64 (arnd n m)) ∧ w = w' := by
  by_cases h : n < 0
  · have hb := neg_tmod_in n m h h3
    have HB := Lib.hid hb; clear hb
    have HE := Lib.hid (arnd_neg (m := m) h)
    go_enter Tryd.func18, Tryd.ntmps18
    go_wp2
    go_ret
    exact ⟨ret_int (by simpa using HE.out), rfl⟩
  · have HE := Lib.hid (arnd_pos (m := m) h)
    go_enter Tryd.func18, Tryd.ntmps18
    go_wp2
    go_ret
    exact ⟨ret_int (by simpa using HE.out), rfl⟩
theorem around_nat (n : Int) (m : Nat) (h3 : 1 ≤ m) : ∃ k : Nat, arnd n m = k ∧ k < m := by
  obtain ⟨a, b⟩ := arnd_in n m (by omega)
  exact ⟨(arnd n m).toNat, by omega, by omega⟩
def icf (n : Int) : List Value := [.int .i64 n]
/-- What Pick answers. -/
def pkI (l : List Int) (i m : Nat) : Int := match l[i]? with | some n => arnd n m | none => 0
theorem pk_nat (l : List Int) (i m : Nat) (h : 1 ≤ m) : ∃ k : Nat, pkI l i m = k ∧ k < m := by
  unfold pkI
  cases l[i]? with
  | none => exact ⟨0, rfl, by omega⟩
  | some n => exact around_nat n m h
set_option maxRecDepth 100000 in
theorem pick_any (A : Option Addr) (c : Nat) (l : List Int) (i m : Nat) (w : World) (hm : 1 ≤ m) (hm2 : m ≤ 1000) (hb : ∀ n ∈ l, -9223372036854775808 ≤ n ∧ n ≤ 9223372036854775807) (h : SL icf 1 w A l.length l) :
    Calls Tryd.prog 23 #[.slice A l.length c, .int .i64 i, .int .i64 m] w fun e w' => e = .returned (.int .i64 (pkI l i m)) ∧ w = w' := by
  by_cases hil : i < l.length
  · obtain ⟨b, off, n, rfl, hbb, hn, hmem, hc⟩ := h.at hil
    have HP := Lib.hid (show pkI l i m = arnd n m by unfold pkI; rw [hn])
    have hc0 := hc 0 (.int .i64 n) rfl
    rw [Nat.mul_one, Nat.add_zero] at hc0
    have HA := Lib.hid (fun X => around_fn n m X (hb n hmem).1 (hb n hmem).2 (by omega) (by omega))
    have hni : ¬ (l.length : Int) ≤ (i : Int) := by omega
    clear hc hn h
    go_enter Tryd.func23, Tryd.ntmps23
    go_wp2_with (first | (go_at_call 18; refine (HA.out _).mono ?_; rintro e w1 ⟨rfl, rfl⟩))
    go_ret
    exact ⟨ret_int (by rw [HP.out]), rfl⟩
  · have HP := Lib.hid (show pkI l i m = 0 by unfold pkI; rw [List.getElem?_eq_none (by omega)])
    have hni : (l.length : Int) ≤ (i : Int) := by omega
    clear h
    go_enter Tryd.func23, Tryd.ntmps23
    go_wp2
    go_ret
    exact ⟨ret_int (by rw [HP.out]), rfl⟩
def DecRel (n : Nat) (s k : Value) : Prop := ∃ (u : Nat) (t : ByteArray), u ≤ n ∧ k = .int .i64 u ∧ s = .string t ∧ t.size ≤ n - u ∧ (if u = 0 then t.data.toList = Lib.decDigits n else Lib.decDigits u ++ t.data.toList = Lib.decDigits n)
def decM (k : Value) : Nat := match k with | .int _ z => z.toNat | _ => 0
theorem dig_list {d : Nat} (h : d < 10) : ((⟨#[48, 49, 50, 51, 52, 53, 54, 55, 56, 57]⟩ : ByteArray).extract d (d + 1)).data.toList = [UInt8.ofNat (48 + d)] := by
  rcases (by omega : d = 0 ∨ d = 1 ∨ d = 2 ∨ d = 3 ∨ d = 4 ∨ d = 5 ∨ d = 6 ∨ d = 7 ∨ d = 8 ∨ d = 9) with rfl | rfl | rfl | rfl | rfl | rfl | rfl | rfl | rfl | rfl <;> decide
theorem dec_done {n : Nat} {t : ByteArray} (h : if (0 : Nat) = 0 then t.data.toList = Lib.decDigits n else Lib.decDigits 0 ++ t.data.toList = Lib.decDigits n) : t = ⟨(Lib.decDigits n).toArray⟩ := by
  rw [if_pos rfl] at h
  rw [← h]
theorem dec_step {n u : Nat} {t : ByteArray} (hu : ¬ u = 0) (h : if u = 0 then t.data.toList = Lib.decDigits n else Lib.decDigits u ++ t.data.toList = Lib.decDigits n) :
    if u / 10 = 0 then ((⟨#[48, 49, 50, 51, 52, 53, 54, 55, 56, 57]⟩ : ByteArray).extract (u % 10) (u % 10 + 1) ++ t).data.toList = Lib.decDigits n else Lib.decDigits (u / 10) ++ ((⟨#[48, 49, 50, 51, 52, 53, 54, 55, 56, 57]⟩ : ByteArray).extract (u % 10) (u % 10 + 1) ++ t).data.toList = Lib.decDigits n := by
  rw [if_neg hu] at h
  have hd := dig_list (Nat.mod_lt u (show 10 > 0 by omega))
  have ha : ((⟨#[48, 49, 50, 51, 52, 53, 54, 55, 56, 57]⟩ : ByteArray).extract (u % 10) (u % 10 + 1) ++ t).data.toList = [UInt8.ofNat (48 + u % 10)] ++ t.data.toList := by
    rw [ByteArray.data_append, Array.toList_append, hd]
  rw [ha, ← h]
  by_cases hq : u < 10
  · rw [if_pos (by omega), Lib.decDigits_one hq, show u % 10 = u by omega]
  · rw [if_neg (by omega)]
    conv => rhs; rw [Lib.decDigits, dif_neg hq]
    simp
theorem dec_size {n u : Nat} {t : ByteArray} (hu : ¬ u = 0) (hn : u ≤ n) (h : t.size ≤ n - u) : ((⟨#[48, 49, 50, 51, 52, 53, 54, 55, 56, 57]⟩ : ByteArray).extract (u % 10) (u % 10 + 1) ++ t).size ≤ n - u / 10 := by
  rw [ByteArray.size_append, ByteArray.size_extract]
  have : u / 10 < u := Nat.div_lt_self (by omega) (by omega)
  omega

set_option maxRecDepth 100000 in
theorem dec_any (n : Nat) (w : World) (hn : n ≤ 2147483647) : Calls Tryd.prog 24 #[.int .i64 n] w fun e w' => e = .returned (.string ⟨(Lib.decDigits n).toArray⟩) ∧ w = w' := by
  by_cases h0 : n = 0
  · subst h0
    have hd : (⟨#[48]⟩ : ByteArray) = ⟨(Lib.decDigits 0).toArray⟩ := by rw [Lib.decDigits_one (by omega)]; rfl
    have HD := Lib.hid hd; clear hd
    go_enter Tryd.func24, Tryd.ntmps24
    go_wp2
    go_ret
    exact ⟨congrArg (fun z => Ending.returned (.string z)) HD.out, rfl⟩
  · have hne : ((n : Int) == 0) = false := by rw [beq_eq_false_iff_ne]; omega
    go_enter Tryd.func24, Tryd.ntmps24
    go_wp2
    go_loop [4, 5] (fun s k => DecRel n s k) (fun _ k => decM k)
    case atStart => exact ⟨n, ByteArray.empty, Nat.le_refl _, rfl, rfl, by simp, by rw [if_neg h0]; simp⟩
    case round =>
      obtain ⟨u, t, hu, rfl, rfl, hts, ht⟩ := hrel
      have HT := Lib.hid ht; clear ht
      by_cases hu0 : u = 0
      · subst hu0
        have hz : ((((0 : Nat) : Int)) != 0) = false := by decide
        have hnn : ¬ (n : Int) < 0 := by omega
        go_wp2
        go_ret
        exact ⟨congrArg (fun z => Ending.returned (.string z)) (dec_done HT.out), rfl⟩
      · have hz : ((u : Int) != 0) = true := by rw [bne_iff_ne]; omega
        have hm := Int.emod_nonneg (u : Int) (show (10 : Int) ≠ 0 by omega)
        have hm2 := Int.emod_lt_of_pos (u : Int) (show (0 : Int) < 10 by omega)
        have hm3 : min (u % 10 + 1) 10 - u % 10 + t.size ≤ 9223372036854775807 := by omega
        have hlt : u / 10 < u := Nat.div_lt_self (by omega) (by omega)
        have hst := dec_step (n := n) hu0 HT.out
        have HST := Lib.hid hst; clear hst
        go_wp2
        exact ⟨⟨u / 10, _, by omega, by simp, rfl, dec_size hu0 hu hts, HST.out⟩, by simp [decM]; omega⟩

end Go.Proofs.YtbmcplnfamgpcaaDoor
