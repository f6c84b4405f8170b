/- slices.IndexFunc, ContainsFunc at elements of one cell: walked (printed by genidx.py). -/
import Derived.Test.YtdbnddmncbjobaaGreatDoorQai
namespace Go.Proofs.YtdbnddmncbjobaaGreatDoor
section
open Go Go.RowKit

variable {β : Type}
/-- The index of the first element of which p holds, or -1. -/
def idxI (p : β → Bool) : List β → Int
  | [] => -1
  | x :: r => if p x then 0 else (match idxI p r with | .ofNat i => i + 1 | .negSucc _ => -1)
theorem idxI_neg (p : β → Bool) (xs : List β) (h : ∀ x ∈ xs, p x = false) : idxI p xs = -1 := by
  induction xs with
  | nil => rfl
  | cons x r ih =>
    rw [idxI, h x (by simp), ih fun y hy => h y (by simp [hy])]
    rfl
theorem idxI_at (p : β → Bool) (xs : List β) (i : Nat) (x : β) (h : ∀ y ∈ xs.take i, p y = false) (hi : xs[i]? = some x) (hx : p x = true) : idxI p xs = i := by
  induction xs generalizing i with
  | nil => simp at hi
  | cons a r ih =>
    cases i with
    | zero =>
      obtain rfl : a = x := by simpa using hi
      rw [idxI, if_pos hx]; rfl
    | succ i =>
      rw [idxI, h a (by simp), ih i (fun y hy => h y (by simp [hy])) (by simpa using hi)]
      simp
theorem idxI_any (p : β → Bool) (xs : List β) : decide (0 ≤ idxI p xs) = xs.any p := by
  cases h : xs.any p with
  | false =>
    rw [idxI_neg p xs (by rw [List.any_eq_false] at h; intro x hx; simpa using h x hx)]
    rfl
  | true =>
    induction xs with
    | nil => simp at h
    | cons x r ih =>
      rw [idxI]
      by_cases hx : p x = true
      · rw [if_pos hx]; rfl
      · rw [if_neg hx]
        have := ih (by simpa [hx] using h)
        revert this
        cases idxI p r with
        | ofNat i => intro _; simp; omega
        | negSucc i => intro h; simp at h
def IdRel (p : β → Bool) (W : World) (xs : List β) (s8 : Value) (w' : World) : Prop := ∃ i : Nat, i ≤ xs.length ∧ s8 = .int .i64 i ∧ (∀ y ∈ xs.take i, p y = false) ∧ Ext W w'
theorem take_none {p : β → Bool} {xs : List β} {i : Nat} {x : β} (h : ∀ y ∈ xs.take i, p y = false) (hi : xs[i]? = some x) (hx : p x = false) : ∀ y ∈ xs.take (i + 1), p y = false := by
  intro y hy
  rw [List.take_add_one, hi] at hy
  rcases List.mem_append.1 hy with hy | hy
  · exact h y hy
  · obtain rfl : y = x := by simpa using hy
    exact hx

set_option maxHeartbeats 4000000 in
set_option maxRecDepth 100000 in
theorem idx238_216 (k : Lay β) (hk : k.sz = 1) (p : β → Bool) (P : Nat → Prop) (W : World) (A : Option Addr) (n c : Nat) (xs : List β) (h : k.row W P A n xs) (hn : n ≤ 100000)
    (hp : ∀ X x u, Ext W X → k.rep X P x [u] → Calls Tryz.prog 216 #[u] X (fun e X' => e = .returned (.bool (p x)) ∧ Ext X X')) :
    Calls Tryz.prog 238 #[.slice A n c, .func (.func 216) #[] #[]] W (fun e W' => e = .returned (.int .i64 (idxI p xs)) ∧ Ext W W') := by
  have hl := Lay.row_len h
  have HR := Lib.hid h
  have HP := Lib.hid hp
  have HL := Lib.hid hl
  clear h hp hl
  go_enter Tryz.func238, Tryz.ntmps238
  go_wp2_with fail
  go_loopw [8] (fun s8 w' => IdRel p W xs s8 w') (fun s8 _ => toM n s8)
  case atStart => exact ⟨0, by omega, rfl, fun y hy => by simp at hy, Ext.refl _⟩
  case round =>
    obtain ⟨i, hi, rfl, ht, hx⟩ := hrel
    rw [← HL.out] at hi
    have HT := Lib.hid ht
    have HX := Lib.hid hx
    clear ht hx
    by_cases hlt : i < n
    case neg =>
      obtain rfl : i = n := by omega
      have hni : ¬ ((i : Int) < (i : Int)) := by omega
      have HF := Lib.hid (show idxI p xs = -1 from idxI_neg p xs (by have := HT.out; rw [HL.out, List.take_length] at this; exact this))
      go_wp2_with fail
      go_ret
      exact ⟨ret_i HF.out.symm, HX.out⟩
    have hI : (i : Int) < (n : Int) := by omega
    obtain ⟨x, hxi⟩ : ∃ x, xs[i]? = some x := ⟨_, List.getElem?_eq_getElem (by have := HL.out; omega)⟩
    obtain ⟨b, off, cs, rfl, hb, _, hrep, hc⟩ := Lay.row_at (Lay.row_ext HR.out HX.out) hxi
    obtain ⟨u, rfl⟩ : ∃ u, cs = [u] := by
      have := k.len hrep
      rw [hk] at this
      exact List.length_eq_one_iff.1 this
    have hcell := hc 0 u rfl
    rw [hk, Nat.mul_one, Nat.add_zero] at hcell
    have h1u := k.one hrep u (by simp)
    have HC := Lib.hid (HP.out _ x u HX.out hrep)
    have HXI := Lib.hid hxi
    clear hc hrep hxi
    obtain ⟨q, hq⟩ : ∃ q, q = p x := ⟨_, rfl⟩
    rw [← hq] at HC
    have HQ := Lib.hid hq
    clear hq
    cases q with
    | true =>
      have HF := Lib.hid (show idxI p xs = i from idxI_at p xs i x HT.out HXI.out HQ.out.symm)
      go_wp2_with (first | (go_at_call 216; refine (HC.out).mono ?_; rintro e w1 ⟨rfl, hx1⟩))
      go_ret
      exact ⟨ret_i HF.out.symm, HX.out.trans hx1⟩
    | false =>
      go_wp2_with (first | (go_at_call 216; refine (HC.out).mono ?_; rintro e w1 ⟨rfl, hx1⟩))
      go_roundw
      case rel => exact ⟨i + 1, by have := HL.out; omega, by simp, take_none HT.out HXI.out HQ.out.symm, HX.out.trans hx1⟩
      case measure => simp only [toM]; omega

set_option maxHeartbeats 2000000 in
set_option maxRecDepth 100000 in
theorem con215_216 (k : Lay β) (hk : k.sz = 1) (p : β → Bool) (P : Nat → Prop) (W : World) (A : Option Addr) (n c : Nat) (xs : List β) (h : k.row W P A n xs) (hn : n ≤ 100000)
    (hp : ∀ X x u, Ext W X → k.rep X P x [u] → Calls Tryz.prog 216 #[u] X (fun e X' => e = .returned (.bool (p x)) ∧ Ext X X')) :
    Calls Tryz.prog 215 #[.slice A n c, .func (.func 216) #[] #[]] W (fun e W' => e = .returned (.bool (xs.any p)) ∧ Ext W W') := by
  have HI := Lib.hid (idx238_216 k hk p P W A n c xs h hn hp)
  have HA := Lib.hid (idxI_any p xs)
  clear h hp
  obtain ⟨v, hv⟩ : ∃ v, v = idxI p xs := ⟨_, rfl⟩
  rw [← hv] at HI HA
  clear hv
  go_enter Tryz.func215, Tryz.ntmps215
  go_wp2_with (first | (go_at_call 238; refine (HI.out).mono ?_; rintro e w1 ⟨rfl, hx1⟩))
  go_ret
  exact ⟨by rw [← HA.out]; rfl, hx1⟩

set_option maxHeartbeats 4000000 in
set_option maxRecDepth 100000 in
theorem idx238_217 (k : Lay β) (hk : k.sz = 1) (p : β → Bool) (P : Nat → Prop) (W : World) (A : Option Addr) (n c : Nat) (xs : List β) (h : k.row W P A n xs) (hn : n ≤ 100000)
    (hp : ∀ X x u, Ext W X → k.rep X P x [u] → Calls Tryz.prog 217 #[u] X (fun e X' => e = .returned (.bool (p x)) ∧ Ext X X')) :
    Calls Tryz.prog 238 #[.slice A n c, .func (.func 217) #[] #[]] W (fun e W' => e = .returned (.int .i64 (idxI p xs)) ∧ Ext W W') := by
  have hl := Lay.row_len h
  have HR := Lib.hid h
  have HP := Lib.hid hp
  have HL := Lib.hid hl
  clear h hp hl
  go_enter Tryz.func238, Tryz.ntmps238
  go_wp2_with fail
  go_loopw [8] (fun s8 w' => IdRel p W xs s8 w') (fun s8 _ => toM n s8)
  case atStart => exact ⟨0, by omega, rfl, fun y hy => by simp at hy, Ext.refl _⟩
  case round =>
    obtain ⟨i, hi, rfl, ht, hx⟩ := hrel
    rw [← HL.out] at hi
    have HT := Lib.hid ht
    have HX := Lib.hid hx
    clear ht hx
    by_cases hlt : i < n
    case neg =>
      obtain rfl : i = n := by omega
      have hni : ¬ ((i : Int) < (i : Int)) := by omega
      have HF := Lib.hid (show idxI p xs = -1 from idxI_neg p xs (by have := HT.out; rw [HL.out, List.take_length] at this; exact this))
      go_wp2_with fail
      go_ret
      exact ⟨ret_i HF.out.symm, HX.out⟩
    have hI : (i : Int) < (n : Int) := by omega
    obtain ⟨x, hxi⟩ : ∃ x, xs[i]? = some x := ⟨_, List.getElem?_eq_getElem (by have := HL.out; omega)⟩
    obtain ⟨b, off, cs, rfl, hb, _, hrep, hc⟩ := Lay.row_at (Lay.row_ext HR.out HX.out) hxi
    obtain ⟨u, rfl⟩ : ∃ u, cs = [u] := by
      have := k.len hrep
      rw [hk] at this
      exact List.length_eq_one_iff.1 this
    have hcell := hc 0 u rfl
    rw [hk, Nat.mul_one, Nat.add_zero] at hcell
    have h1u := k.one hrep u (by simp)
    have HC := Lib.hid (HP.out _ x u HX.out hrep)
    have HXI := Lib.hid hxi
    clear hc hrep hxi
    obtain ⟨q, hq⟩ : ∃ q, q = p x := ⟨_, rfl⟩
    rw [← hq] at HC
    have HQ := Lib.hid hq
    clear hq
    cases q with
    | true =>
      have HF := Lib.hid (show idxI p xs = i from idxI_at p xs i x HT.out HXI.out HQ.out.symm)
      go_wp2_with (first | (go_at_call 217; refine (HC.out).mono ?_; rintro e w1 ⟨rfl, hx1⟩))
      go_ret
      exact ⟨ret_i HF.out.symm, HX.out.trans hx1⟩
    | false =>
      go_wp2_with (first | (go_at_call 217; refine (HC.out).mono ?_; rintro e w1 ⟨rfl, hx1⟩))
      go_roundw
      case rel => exact ⟨i + 1, by have := HL.out; omega, by simp, take_none HT.out HXI.out HQ.out.symm, HX.out.trans hx1⟩
      case measure => simp only [toM]; omega

set_option maxHeartbeats 2000000 in
set_option maxRecDepth 100000 in
theorem con215_217 (k : Lay β) (hk : k.sz = 1) (p : β → Bool) (P : Nat → Prop) (W : World) (A : Option Addr) (n c : Nat) (xs : List β) (h : k.row W P A n xs) (hn : n ≤ 100000)
    (hp : ∀ X x u, Ext W X → k.rep X P x [u] → Calls Tryz.prog 217 #[u] X (fun e X' => e = .returned (.bool (p x)) ∧ Ext X X')) :
    Calls Tryz.prog 215 #[.slice A n c, .func (.func 217) #[] #[]] W (fun e W' => e = .returned (.bool (xs.any p)) ∧ Ext W W') := by
  have HI := Lib.hid (idx238_217 k hk p P W A n c xs h hn hp)
  have HA := Lib.hid (idxI_any p xs)
  clear h hp
  obtain ⟨v, hv⟩ : ∃ v, v = idxI p xs := ⟨_, rfl⟩
  rw [← hv] at HI HA
  clear hv
  go_enter Tryz.func215, Tryz.ntmps215
  go_wp2_with (first | (go_at_call 238; refine (HI.out).mono ?_; rintro e w1 ⟨rfl, hx1⟩))
  go_ret
  exact ⟨by rw [← HA.out]; rfl, hx1⟩

set_option maxHeartbeats 4000000 in
set_option maxRecDepth 100000 in
theorem idx243_223 (k : Lay β) (hk : k.sz = 1) (p : β → Bool) (P : Nat → Prop) (W : World) (A : Option Addr) (n c : Nat) (xs : List β) (h : k.row W P A n xs) (hn : n ≤ 100000)
    (hp : ∀ X x u, Ext W X → k.rep X P x [u] → Calls Tryz.prog 223 #[u] X (fun e X' => e = .returned (.bool (p x)) ∧ Ext X X')) :
    Calls Tryz.prog 243 #[.slice A n c, .func (.func 223) #[] #[]] W (fun e W' => e = .returned (.int .i64 (idxI p xs)) ∧ Ext W W') := by
  have hl := Lay.row_len h
  have HR := Lib.hid h
  have HP := Lib.hid hp
  have HL := Lib.hid hl
  clear h hp hl
  go_enter Tryz.func243, Tryz.ntmps243
  go_wp2_with fail
  go_loopw [8] (fun s8 w' => IdRel p W xs s8 w') (fun s8 _ => toM n s8)
  case atStart => exact ⟨0, by omega, rfl, fun y hy => by simp at hy, Ext.refl _⟩
  case round =>
    obtain ⟨i, hi, rfl, ht, hx⟩ := hrel
    rw [← HL.out] at hi
    have HT := Lib.hid ht
    have HX := Lib.hid hx
    clear ht hx
    by_cases hlt : i < n
    case neg =>
      obtain rfl : i = n := by omega
      have hni : ¬ ((i : Int) < (i : Int)) := by omega
      have HF := Lib.hid (show idxI p xs = -1 from idxI_neg p xs (by have := HT.out; rw [HL.out, List.take_length] at this; exact this))
      go_wp2_with fail
      go_ret
      exact ⟨ret_i HF.out.symm, HX.out⟩
    have hI : (i : Int) < (n : Int) := by omega
    obtain ⟨x, hxi⟩ : ∃ x, xs[i]? = some x := ⟨_, List.getElem?_eq_getElem (by have := HL.out; omega)⟩
    obtain ⟨b, off, cs, rfl, hb, _, hrep, hc⟩ := Lay.row_at (Lay.row_ext HR.out HX.out) hxi
    obtain ⟨u, rfl⟩ : ∃ u, cs = [u] := by
      have := k.len hrep
      rw [hk] at this
      exact List.length_eq_one_iff.1 this
    have hcell := hc 0 u rfl
    rw [hk, Nat.mul_one, Nat.add_zero] at hcell
    have h1u := k.one hrep u (by simp)
    have HC := Lib.hid (HP.out _ x u HX.out hrep)
    have HXI := Lib.hid hxi
    clear hc hrep hxi
    obtain ⟨q, hq⟩ : ∃ q, q = p x := ⟨_, rfl⟩
    rw [← hq] at HC
    have HQ := Lib.hid hq
    clear hq
    cases q with
    | true =>
      have HF := Lib.hid (show idxI p xs = i from idxI_at p xs i x HT.out HXI.out HQ.out.symm)
      go_wp2_with (first | (go_at_call 223; refine (HC.out).mono ?_; rintro e w1 ⟨rfl, hx1⟩))
      go_ret
      exact ⟨ret_i HF.out.symm, HX.out.trans hx1⟩
    | false =>
      go_wp2_with (first | (go_at_call 223; refine (HC.out).mono ?_; rintro e w1 ⟨rfl, hx1⟩))
      go_roundw
      case rel => exact ⟨i + 1, by have := HL.out; omega, by simp, take_none HT.out HXI.out HQ.out.symm, HX.out.trans hx1⟩
      case measure => simp only [toM]; omega

set_option maxHeartbeats 2000000 in
set_option maxRecDepth 100000 in
theorem con222_223 (k : Lay β) (hk : k.sz = 1) (p : β → Bool) (P : Nat → Prop) (W : World) (A : Option Addr) (n c : Nat) (xs : List β) (h : k.row W P A n xs) (hn : n ≤ 100000)
    (hp : ∀ X x u, Ext W X → k.rep X P x [u] → Calls Tryz.prog 223 #[u] X (fun e X' => e = .returned (.bool (p x)) ∧ Ext X X')) :
    Calls Tryz.prog 222 #[.slice A n c, .func (.func 223) #[] #[]] W (fun e W' => e = .returned (.bool (xs.any p)) ∧ Ext W W') := by
  have HI := Lib.hid (idx243_223 k hk p P W A n c xs h hn hp)
  have HA := Lib.hid (idxI_any p xs)
  clear h hp
  obtain ⟨v, hv⟩ : ∃ v, v = idxI p xs := ⟨_, rfl⟩
  rw [← hv] at HI HA
  clear hv
  go_enter Tryz.func222, Tryz.ntmps222
  go_wp2_with (first | (go_at_call 243; refine (HI.out).mono ?_; rintro e w1 ⟨rfl, hx1⟩))
  go_ret
  exact ⟨by rw [← HA.out]; rfl, hx1⟩

set_option maxHeartbeats 4000000 in
set_option maxRecDepth 100000 in
theorem idx250_248 (k : Lay β) (hk : k.sz = 1) (p : β → Bool) (P : Nat → Prop) (W : World) (A : Option Addr) (n c : Nat) (xs : List β) (h : k.row W P A n xs) (hn : n ≤ 100000)
    (hp : ∀ X x u, Ext W X → k.rep X P x [u] → Calls Tryz.prog 248 #[u] X (fun e X' => e = .returned (.bool (p x)) ∧ Ext X X')) :
    Calls Tryz.prog 250 #[.slice A n c, .func (.func 248) #[] #[]] W (fun e W' => e = .returned (.int .i64 (idxI p xs)) ∧ Ext W W') := by
  have hl := Lay.row_len h
  have HR := Lib.hid h
  have HP := Lib.hid hp
  have HL := Lib.hid hl
  clear h hp hl
  go_enter Tryz.func250, Tryz.ntmps250
  go_wp2_with fail
  go_loopw [8] (fun s8 w' => IdRel p W xs s8 w') (fun s8 _ => toM n s8)
  case atStart => exact ⟨0, by omega, rfl, fun y hy => by simp at hy, Ext.refl _⟩
  case round =>
    obtain ⟨i, hi, rfl, ht, hx⟩ := hrel
    rw [← HL.out] at hi
    have HT := Lib.hid ht
    have HX := Lib.hid hx
    clear ht hx
    by_cases hlt : i < n
    case neg =>
      obtain rfl : i = n := by omega
      have hni : ¬ ((i : Int) < (i : Int)) := by omega
      have HF := Lib.hid (show idxI p xs = -1 from idxI_neg p xs (by have := HT.out; rw [HL.out, List.take_length] at this; exact this))
      go_wp2_with fail
      go_ret
      exact ⟨ret_i HF.out.symm, HX.out⟩
    have hI : (i : Int) < (n : Int) := by omega
    obtain ⟨x, hxi⟩ : ∃ x, xs[i]? = some x := ⟨_, List.getElem?_eq_getElem (by have := HL.out; omega)⟩
    obtain ⟨b, off, cs, rfl, hb, _, hrep, hc⟩ := Lay.row_at (Lay.row_ext HR.out HX.out) hxi
    obtain ⟨u, rfl⟩ : ∃ u, cs = [u] := by
      have := k.len hrep
      rw [hk] at this
      exact List.length_eq_one_iff.1 this
    have hcell := hc 0 u rfl
    rw [hk, Nat.mul_one, Nat.add_zero] at hcell
    have h1u := k.one hrep u (by simp)
    have HC := Lib.hid (HP.out _ x u HX.out hrep)
    have HXI := Lib.hid hxi
    clear hc hrep hxi
    obtain ⟨q, hq⟩ : ∃ q, q = p x := ⟨_, rfl⟩
    rw [← hq] at HC
    have HQ := Lib.hid hq
    clear hq
    cases q with
    | true =>
      have HF := Lib.hid (show idxI p xs = i from idxI_at p xs i x HT.out HXI.out HQ.out.symm)
      go_wp2_with (first | (go_at_call 248; refine (HC.out).mono ?_; rintro e w1 ⟨rfl, hx1⟩))
      go_ret
      exact ⟨ret_i HF.out.symm, HX.out.trans hx1⟩
    | false =>
      go_wp2_with (first | (go_at_call 248; refine (HC.out).mono ?_; rintro e w1 ⟨rfl, hx1⟩))
      go_roundw
      case rel => exact ⟨i + 1, by have := HL.out; omega, by simp, take_none HT.out HXI.out HQ.out.symm, HX.out.trans hx1⟩
      case measure => simp only [toM]; omega

set_option maxHeartbeats 2000000 in
set_option maxRecDepth 100000 in
theorem con247_248 (k : Lay β) (hk : k.sz = 1) (p : β → Bool) (P : Nat → Prop) (W : World) (A : Option Addr) (n c : Nat) (xs : List β) (h : k.row W P A n xs) (hn : n ≤ 100000)
    (hp : ∀ X x u, Ext W X → k.rep X P x [u] → Calls Tryz.prog 248 #[u] X (fun e X' => e = .returned (.bool (p x)) ∧ Ext X X')) :
    Calls Tryz.prog 247 #[.slice A n c, .func (.func 248) #[] #[]] W (fun e W' => e = .returned (.bool (xs.any p)) ∧ Ext W W') := by
  have HI := Lib.hid (idx250_248 k hk p P W A n c xs h hn hp)
  have HA := Lib.hid (idxI_any p xs)
  clear h hp
  obtain ⟨v, hv⟩ : ∃ v, v = idxI p xs := ⟨_, rfl⟩
  rw [← hv] at HI HA
  clear hv
  go_enter Tryz.func247, Tryz.ntmps247
  go_wp2_with (first | (go_at_call 250; refine (HI.out).mono ?_; rintro e w1 ⟨rfl, hx1⟩))
  go_ret
  exact ⟨by rw [← HA.out]; rfl, hx1⟩
end
section
open Go Go.RowKit

set_option maxHeartbeats 2000000 in
set_option maxRecDepth 100000 in
theorem gvalid_any (S : ByteArray) (w : World) (hL : EnvW w) : Calls Tryz.prog 218 #[.string S] w (fun e w' => e = .returned (.bool (validW S.data.toList)) ∧ w' = w) := by
  have HW := Lib.hid (width_any S w hL)
  obtain ⟨v, hv⟩ : ∃ v, v = wid S.data.toList := ⟨_, rfl⟩
  rw [← hv] at HW
  have HV := Lib.hid (show validW S.data.toList = decide (0 < v) by unfold validW; rw [hv])
  clear hv hL
  go_enter Tryz.func218, Tryz.ntmps218
  go_wp2_with (first | (go_at_call 219; refine (HW.out).mono ?_; rintro e w1 ⟨rfl, rfl⟩))
  go_ret
  exact ⟨by rw [HV.out]; rfl, rfl⟩
theorem many_any (A : Option Addr) (n c : Nat) (w : World) : Calls Tryz.prog 216 #[.slice A n c] w (fun e w' => e = .returned (.bool (decide (500 < n))) ∧ w' = w) := by
  have HV := Lib.hid (show decide ((500 : Int) < (n : Int)) = decide (500 < n) from decide_eq_decide.2 (by omega))
  go_enter Tryz.func216, Tryz.ntmps216
  go_wp2_with fail
  go_ret
  exact ⟨by rw [← HV.out]; rfl, rfl⟩
theorem none_any (A : Option Addr) (n c : Nat) (w : World) : Calls Tryz.prog 217 #[.slice A n c] w (fun e w' => e = .returned (.bool (decide (n = 0))) ∧ w' = w) := by
  obtain ⟨q, hq⟩ : ∃ q, q = decide (n = 0) := ⟨_, rfl⟩
  have HQ := Lib.hid hq
  by_cases h : n = 0
  · subst h
    go_enter Tryz.func217, Tryz.ntmps217
    go_wp2_with fail
    go_ret
    exact ⟨rfl, rfl⟩
  · have h' : ¬ (n : Int) = 0 := by omega
    have HN := Lib.hid (show decide (n = 0) = false from decide_eq_false h)
    clear hq HQ
    go_enter Tryz.func217, Tryz.ntmps217
    go_wp2_with fail
    go_ret
    exact ⟨by rw [HN.out]; simp [h], rfl⟩
/-- The tests of the parts' lengths. -/
theorem parts_many (P : Nat → Prop) (W : World) (A : Option Addr) (n c : Nat) (xs : List (List Wd)) (h : kWs.row W P A n xs) (hn : n ≤ 100000) :
    Calls Tryz.prog 215 #[.slice A n c, .func (.func 216) #[] #[]] W (fun e W' => e = .returned (.bool (xs.any fun p => decide (500 < p.length))) ∧ Ext W W') :=
  con215_216 kWs rfl _ P W A n c xs h hn fun X x u hx hr => by
    obtain ⟨A', c', e, _, _⟩ := kWs_rep.1 hr
    obtain rfl : u = .slice A' x.length c' := by simpa using e
    exact (many_any A' x.length c' X).mono fun e w' ⟨h1, h2⟩ => ⟨h1, by rw [h2]; exact Ext.refl _⟩
theorem parts_none (P : Nat → Prop) (W : World) (A : Option Addr) (n c : Nat) (xs : List (List Wd)) (h : kWs.row W P A n xs) (hn : n ≤ 100000) :
    Calls Tryz.prog 215 #[.slice A n c, .func (.func 217) #[] #[]] W (fun e W' => e = .returned (.bool (xs.any fun p => decide (p.length = 0))) ∧ Ext W W') :=
  con215_217 kWs rfl _ P W A n c xs h hn fun X x u hx hr => by
    obtain ⟨A', c', e, _, _⟩ := kWs_rep.1 hr
    obtain rfl : u = .slice A' x.length c' := by simpa using e
    exact (none_any A' x.length c' X).mono fun e w' ⟨h1, h2⟩ => ⟨h1, by rw [h2]; exact Ext.refl _⟩
end
section
open Go Go.RowKit

/-- The element i of a row of numbers. -/
theorem int_at {W : World} {P : Nat → Prop} {A : Option Addr} {n : Nat} {xs : List Int} (h : kInt.row W P A n xs) {i : Nat} {x : Int} (hi : xs[i]? = some x) :
    ∃ b off, A = some ⟨b, off, none⟩ ∧ b < W.heap.size ∧ P b ∧ W.cell? ⟨b, off + i, none⟩ = some (.int .i64 x) := by
  obtain ⟨b, off, cs, e, hb, hp, hr, hc⟩ := Lay.row_at h hi
  have hr : cs = [.int .i64 x] := hr
  subst hr
  have := hc 0 _ rfl
  rw [show kInt.sz = 1 from rfl, Nat.mul_one, Nat.add_zero] at this
  exact ⟨b, off, e, hb, hp, this⟩
def slackF (m : Int) (ws : List Int) : Int := ws.foldl (fun s w => s - (w + 6)) (m + 6)
theorem slackF_bd {m : Int} (hm0 : 0 ≤ m) (hm : m ≤ 2000) (ws : List Int) (h : Wds ws) : slackF m ws ≤ 2006 ∧ -(486 * (ws.length : Int)) ≤ slackF m ws := by
  suffices ∀ (l : List Int) (s : Int), Wds l → l.foldl (fun s w => s - (w + 6)) s ≤ s ∧ s - 486 * (l.length : Int) ≤ l.foldl (fun s w => s - (w + 6)) s by
    have := this ws (m + 6) h
    unfold slackF; omega
  intro l
  induction l with
  | nil => intro s _; simp
  | cons a r ih =>
    intro s hl
    have h1 := hl a (by simp)
    have := ih (s - (a + 6)) hl.tail
    simp only [List.foldl_cons, List.length_cons]
    omega
def SkRel (m : Int) (ws : List Int) (W : World) (s5 s12 : Value) (w' : World) : Prop := ∃ i : Nat, i ≤ ws.length ∧ s12 = .int .i64 i ∧ s5 = .int .i64 (slackF m (ws.take i)) ∧ W = w'
set_option maxHeartbeats 4000000 in
set_option maxRecDepth 100000 in
theorem slack_any (P : Nat → Prop) (w : World) (A : Option Addr) (n c : Nat) (ws : List Int) (m : Int) (h : kInt.row w P A n ws) (hw : Wds ws) (hn : n ≤ 500) (hm0 : 0 ≤ m) (hm : m ≤ 2000) :
    Calls Tryz.prog 242 #[.slice A n c, .int .i64 m] w (fun e w' => e = .returned (.int .i64 (slackP ws m)) ∧ w' = w) := by
  have HL := Lib.hid (Lay.row_len h)
  have HR := Lib.hid h
  have HW := Lib.hid hw
  clear h hw
  go_enter Tryz.func242, Tryz.ntmps242
  go_wp2_with fail
  go_loopw [5, 12] (fun s5 s12 w' => SkRel m ws w s5 s12 w') (fun _ s12 _ => toM n s12)
  case atStart => exact ⟨0, by omega, rfl, rfl, rfl⟩
  case round =>
    obtain ⟨i, hi, rfl, rfl, rfl⟩ := hrel
    rw [← HL.out] at hi
    have hb := slackF_bd hm0 hm (ws.take i) (fun x hx => HW.out x (List.mem_of_mem_take hx))
    have hti : (ws.take i).length ≤ 500 := by rw [List.length_take]; omega
    obtain ⟨s, hs⟩ : ∃ s, s = slackF m (ws.take i) := ⟨_, rfl⟩
    rw [← hs] at hb ⊢
    have HS := Lib.hid hs
    clear hs
    by_cases hlt : i < n
    case neg =>
      obtain rfl : i = n := by omega
      have hni : ¬ ((i : Int) < (i : Int)) := by omega
      have HF := Lib.hid (show slackP ws m = s by rw [HS.out, HL.out, List.take_length]; rfl)
      go_wp2_with fail
      go_ret
      exact ⟨ret_i HF.out.symm, rfl⟩
    have hI : (i : Int) < (n : Int) := by omega
    obtain ⟨x, hxi⟩ : ∃ x, ws[i]? = some x := ⟨_, List.getElem?_eq_getElem (by have := HL.out; omega)⟩
    obtain ⟨b, off, rfl, hb1, _, hcell⟩ := int_at HR.out hxi
    have hx := HW.out x (List.mem_of_getElem? hxi)
    have HX := Lib.hid hxi
    clear hxi
    have b1 : -300000 ≤ s := by omega
    have b2 : s ≤ 2006 := hb.1
    clear hb hti
    go_wp2_with fail
    go_roundw
    case rel =>
      refine ⟨i + 1, by have := HL.out; omega, by simp, ?_, rfl⟩
      rw [List.take_add_one, HX.out, HS.out]
      simp [slackF]
    case measure => simp only [toM]; omega
end
section
open Go Go.RowKit

theorem wout_any (x : Int) (w : World) : Calls Tryz.prog 248 #[.int .i64 x] w (fun e w' => e = .returned (.bool (decide (x < 1 ∨ 480 < x))) ∧ w' = w) := by
  generalize hq : decide (x < 1 ∨ 480 < x) = q
  by_cases h1 : x < 1
  · have HN := Lib.hid (hq.symm.trans (decide_eq_true (.inl h1)))
    clear hq
    go_enter Tryz.func248, Tryz.ntmps248
    go_wp2_with fail
    go_ret
    exact ⟨by rw [HN.out]; rfl, rfl⟩
  · have HN := Lib.hid (hq.symm.trans (show decide (x < 1 ∨ 480 < x) = decide (480 < x) from decide_eq_decide.2 (by omega)))
    clear hq
    go_enter Tryz.func248, Tryz.ntmps248
    go_wp2_with fail
    go_ret
    exact ⟨by rw [HN.out]; rfl, rfl⟩
/-- Widths of words. -/
def Wdr (ws : List Int) : Prop := ∀ w ∈ ws, 1 ≤ w ∧ w ≤ 480
theorem Wdr.wds {ws : List Int} (h : Wdr ws) : Wds ws := fun w hw => by have := h w hw; omega
theorem regular_any (P : Nat → Prop) (w : World) (A : Option Addr) (n c : Nat) (ws : List Int) (h : kInt.row w P A n ws) (hw : Wdr ws) (hn : n ≤ 100000) :
    Calls Tryz.prog 247 #[.slice A n c, .func (.func 248) #[] #[]] w (fun e w' => e = .returned (.bool false) ∧ Ext w w') :=
  (con247_248 kInt rfl (fun x => decide (x < 1 ∨ 480 < x)) P w A n c ws h hn fun X x u hx hr => by
    have hr : [u] = [.int .i64 x] := hr
    obtain rfl : u = .int .i64 x := by simpa using hr
    exact (wout_any x X).mono fun e w' ⟨h1, h2⟩ => ⟨h1, by rw [h2]; exact Ext.refl _⟩).mono fun e w' ⟨h1, h2⟩ => ⟨by
      have : ws.any (fun x => decide (x < 1 ∨ 480 < x)) = false := by
        rw [List.any_eq_false]
        intro x hx
        have := hw x hx
        simp only [decide_eq_true_eq]; omega
      rw [this] at h1; exact h1, h2⟩
set_option maxHeartbeats 4000000 in
set_option maxRecDepth 100000 in
theorem pcheck_any (P : Nat → Prop) (w : World) (A : Option Addr) (n c : Nat) (ws : List Int) (m : Int) (h : kInt.row w P A n ws) (hw : Wdr ws) (hn : n ≤ 500) (hm0 : 500 ≤ m) (hm : m ≤ 2000) :
    Calls Tryz.prog 240 #[.slice A n c, .int .i64 m] w (fun e w' => e = .returned (.int .i64 0) ∧ Ext w w') := by
  have HR := Lib.hid (fun X (hx : Ext w X) => regular_any P X A n c ws (Lay.row_ext h hx) hw (by omega))
  have h1 : ¬ (500 : Int) < (n : Int) := by omega
  have h2 : ¬ m < 500 := by omega
  have h3 : ¬ (2000 : Int) < m := by omega
  clear h hw
  go_enter Tryz.func240, Tryz.ntmps240
  go_wp2_with (first | (go_at_call 247; refine (HR.out _ (Ext.refl _)).mono ?_; rintro e w1 ⟨rfl, hx1⟩))
  go_ret
  exact ⟨rfl, hx1⟩
end
end Go.Proofs.YtdbnddmncbjobaaGreatDoor