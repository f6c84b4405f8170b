/- slices.IndexFunc, ContainsFunc at elements of one cell: walked (printed by genidx.py). -/
import Derived.Test.YtdbnddmncbjobaaGreatDoorMb
import Derived.Laws.CopyOwn
import Derived.Test.YtdbnddmncbjobaaGreatDoorMa
import Derived.Deep.QuietTactic
import Derived.BigQuiet
import Derived.WalkMore
import Derived.Deep.DeepCutAuto
import Derived.Deep.RegionHeld3
import Derived.Deep.RegionLaw
import Derived.StillTailTactics
namespace Go.Proofs.YtdbnddmncbjobaaGreatDoor
open Go Go.RowKit

variable {β : Type}
/-- The index of the first element of which p holds, or -1. -/
def idxI (p : β → Bool) : List β → Int
  | [] => -1
  | x :: r => if p x then 0 else (match idxI p r with | .ofNat i => i + 1 | .negSucc _ => -1)
theorem idxI_neg (p : β → Bool) (xs : List β) (h : ∀ x ∈ xs, p x = false) : idxI p xs = -1 := by
  induction xs with
  | nil => rfl
  | cons x r ih =>
    rw [idxI, h x (by simp), ih fun y hy => h y (by simp [hy])]
    rfl
theorem idxI_at (p : β → Bool) (xs : List β) (i : Nat) (x : β) (h : ∀ y ∈ xs.take i, p y = false) (hi : xs[i]? = some x) (hx : p x = true) : idxI p xs = i := by
  induction xs generalizing i with
  | nil => simp at hi
  | cons a r ih =>
    cases i with
    | zero =>
      obtain rfl : a = x := by simpa using hi
      rw [idxI, if_pos hx]; rfl
    | succ i =>
      rw [idxI, h a (by simp), ih i (fun y hy => h y (by simp [hy])) (by simpa using hi)]
      simp
theorem idxI_any (p : β → Bool) (xs : List β) : decide (0 ≤ idxI p xs) = xs.any p := by
  cases h : xs.any p with
  | false =>
    rw [idxI_neg p xs (by rw [List.any_eq_false] at h; intro x hx; simpa using h x hx)]
    rfl
  | true =>
    induction xs with
    | nil => simp at h
    | cons x r ih =>
      rw [idxI]
      by_cases hx : p x = true
      · rw [if_pos hx]; rfl
      · rw [if_neg hx]
        have := ih (by simpa [hx] using h)
        revert this
        cases idxI p r with
        | ofNat i => intro _; simp; omega
        | negSucc i => intro h; simp at h
def IdRel (p : β → Bool) (W : World) (xs : List β) (s8 : Value) (w' : World) : Prop := ∃ i : Nat, i ≤ xs.length ∧ s8 = .int .i64 i ∧ (∀ y ∈ xs.take i, p y = false) ∧ Ext W w'
theorem take_none {p : β → Bool} {xs : List β} {i : Nat} {x : β} (h : ∀ y ∈ xs.take i, p y = false) (hi : xs[i]? = some x) (hx : p x = false) : ∀ y ∈ xs.take (i + 1), p y = false := by
  intro y hy
  rw [List.take_add_one, hi] at hy
  rcases List.mem_append.1 hy with hy | hy
  · exact h y hy
  · obtain rfl : y = x := by simpa using hy
    exact hx

set_option maxHeartbeats 4000000 in
set_option maxRecDepth 100000 in
theorem idx238_216 (k : Lay β) (hk : k.sz = 1) (p : β → Bool) (P : Nat → Prop) (W : World) (A : Option Addr) (n c : Nat) (xs : List β) (h : k.row W P A n xs) (hn : n ≤ 100000)
    (hp : ∀ X x u, Ext W X → k.rep X P x [u] → Calls Tryz.prog 216 #[u] X (fun e X' => e = .returned (.bool (p x)) ∧ Ext X X')) :
    Calls Tryz.prog 238 #[.slice A n c, .func (.func 216) #[] #[]] W (fun e W' => e = .returned (.int .i64 (idxI p xs)) ∧ Ext W W') := by
  have hl := Lay.row_len h
  have HR := Lib.hid h
  have HP := Lib.hid hp
  have HL := Lib.hid hl
  clear h hp hl
  go_enter Tryz.func238, Tryz.ntmps238
  go_wp2_with fail
  go_loopw [8] (fun s8 w' => IdRel p W xs s8 w') (fun s8 _ => toM n s8)
  case atStart => exact ⟨0, by omega, rfl, fun y hy => by simp at hy, Ext.refl _⟩
  case round =>
    obtain ⟨i, hi, rfl, ht, hx⟩ := hrel
    rw [← HL.out] at hi
    have HT := Lib.hid ht
    have HX := Lib.hid hx
    clear ht hx
    by_cases hlt : i < n
    case neg =>
      obtain rfl : i = n := by omega
      have hni : ¬ ((i : Int) < (i : Int)) := by omega
      have HF := Lib.hid (show idxI p xs = -1 from idxI_neg p xs (by have := HT.out; rw [HL.out, List.take_length] at this; exact this))
      go_wp2_with fail
      go_ret
      exact ⟨ret_i HF.out.symm, HX.out⟩
    have hI : (i : Int) < (n : Int) := by omega
    obtain ⟨x, hxi⟩ : ∃ x, xs[i]? = some x := ⟨_, List.getElem?_eq_getElem (by have := HL.out; omega)⟩
    obtain ⟨b, off, cs, rfl, hb, _, hrep, hc⟩ := Lay.row_at (Lay.row_ext HR.out HX.out) hxi
    obtain ⟨u, rfl⟩ : ∃ u, cs = [u] := by
      have := k.len hrep
      rw [hk] at this
      exact List.length_eq_one_iff.1 this
    have hcell := hc 0 u rfl
    rw [hk, Nat.mul_one, Nat.add_zero] at hcell
    have h1u := k.one hrep u (by simp)
    have HC := Lib.hid (HP.out _ x u HX.out hrep)
    have HXI := Lib.hid hxi
    clear hc hrep hxi
    obtain ⟨q, hq⟩ : ∃ q, q = p x := ⟨_, rfl⟩
    rw [← hq] at HC
    have HQ := Lib.hid hq
    clear hq
    cases q with
    | true =>
      have HF := Lib.hid (show idxI p xs = i from idxI_at p xs i x HT.out HXI.out HQ.out.symm)
      go_wp2_with (first | (go_at_call 216; refine (HC.out).mono ?_; rintro e w1 ⟨rfl, hx1⟩))
      go_ret
      exact ⟨ret_i HF.out.symm, HX.out.trans hx1⟩
    | false =>
      go_wp2_with (first | (go_at_call 216; refine (HC.out).mono ?_; rintro e w1 ⟨rfl, hx1⟩))
      go_roundw
      case rel => exact ⟨i + 1, by have := HL.out; omega, by simp, take_none HT.out HXI.out HQ.out.symm, HX.out.trans hx1⟩
      case measure => simp only [toM]; omega

set_option maxHeartbeats 2000000 in
set_option maxRecDepth 100000 in
theorem con215_216 (k : Lay β) (hk : k.sz = 1) (p : β → Bool) (P : Nat → Prop) (W : World) (A : Option Addr) (n c : Nat) (xs : List β) (h : k.row W P A n xs) (hn : n ≤ 100000)
    (hp : ∀ X x u, Ext W X → k.rep X P x [u] → Calls Tryz.prog 216 #[u] X (fun e X' => e = .returned (.bool (p x)) ∧ Ext X X')) :
    Calls Tryz.prog 215 #[.slice A n c, .func (.func 216) #[] #[]] W (fun e W' => e = .returned (.bool (xs.any p)) ∧ Ext W W') := by
  have HI := Lib.hid (idx238_216 k hk p P W A n c xs h hn hp)
  have HA := Lib.hid (idxI_any p xs)
  clear h hp
  obtain ⟨v, hv⟩ : ∃ v, v = idxI p xs := ⟨_, rfl⟩
  rw [← hv] at HI HA
  clear hv
  go_enter Tryz.func215, Tryz.ntmps215
  go_wp2_with (first | (go_at_call 238; refine (HI.out).mono ?_; rintro e w1 ⟨rfl, hx1⟩))
  go_ret
  exact ⟨by rw [← HA.out]; rfl, hx1⟩

set_option maxHeartbeats 4000000 in
set_option maxRecDepth 100000 in
theorem idx238_217 (k : Lay β) (hk : k.sz = 1) (p : β → Bool) (P : Nat → Prop) (W : World) (A : Option Addr) (n c : Nat) (xs : List β) (h : k.row W P A n xs) (hn : n ≤ 100000)
    (hp : ∀ X x u, Ext W X → k.rep X P x [u] → Calls Tryz.prog 217 #[u] X (fun e X' => e = .returned (.bool (p x)) ∧ Ext X X')) :
    Calls Tryz.prog 238 #[.slice A n c, .func (.func 217) #[] #[]] W (fun e W' => e = .returned (.int .i64 (idxI p xs)) ∧ Ext W W') := by
  have hl := Lay.row_len h
  have HR := Lib.hid h
  have HP := Lib.hid hp
  have HL := Lib.hid hl
  clear h hp hl
  go_enter Tryz.func238, Tryz.ntmps238
  go_wp2_with fail
  go_loopw [8] (fun s8 w' => IdRel p W xs s8 w') (fun s8 _ => toM n s8)
  case atStart => exact ⟨0, by omega, rfl, fun y hy => by simp at hy, Ext.refl _⟩
  case round =>
    obtain ⟨i, hi, rfl, ht, hx⟩ := hrel
    rw [← HL.out] at hi
    have HT := Lib.hid ht
    have HX := Lib.hid hx
    clear ht hx
    by_cases hlt : i < n
    case neg =>
      obtain rfl : i = n := by omega
      have hni : ¬ ((i : Int) < (i : Int)) := by omega
      have HF := Lib.hid (show idxI p xs = -1 from idxI_neg p xs (by have := HT.out; rw [HL.out, List.take_length] at this; exact this))
      go_wp2_with fail
      go_ret
      exact ⟨ret_i HF.out.symm, HX.out⟩
    have hI : (i : Int) < (n : Int) := by omega
    obtain ⟨x, hxi⟩ : ∃ x, xs[i]? = some x := ⟨_, List.getElem?_eq_getElem (by have := HL.out; omega)⟩
    obtain ⟨b, off, cs, rfl, hb, _, hrep, hc⟩ := Lay.row_at (Lay.row_ext HR.out HX.out) hxi
    obtain ⟨u, rfl⟩ : ∃ u, cs = [u] := by
      have := k.len hrep
      rw [hk] at this
      exact List.length_eq_one_iff.1 this
    have hcell := hc 0 u rfl
    rw [hk, Nat.mul_one, Nat.add_zero] at hcell
    have h1u := k.one hrep u (by simp)
    have HC := Lib.hid (HP.out _ x u HX.out hrep)
    have HXI := Lib.hid hxi
    clear hc hrep hxi
    obtain ⟨q, hq⟩ : ∃ q, q = p x := ⟨_, rfl⟩
    rw [← hq] at HC
    have HQ := Lib.hid hq
    clear hq
    cases q with
    | true =>
      have HF := Lib.hid (show idxI p xs = i from idxI_at p xs i x HT.out HXI.out HQ.out.symm)
      go_wp2_with (first | (go_at_call 217; refine (HC.out).mono ?_; rintro e w1 ⟨rfl, hx1⟩))
      go_ret
      exact ⟨ret_i HF.out.symm, HX.out.trans hx1⟩
    | false =>
      go_wp2_with (first | (go_at_call 217; refine (HC.out).mono ?_; rintro e w1 ⟨rfl, hx1⟩))
      go_roundw
      case rel => exact ⟨i + 1, by have := HL.out; omega, by simp, take_none HT.out HXI.out HQ.out.symm, HX.out.trans hx1⟩
      case measure => simp only [toM]; omega

set_option maxHeartbeats 2000000 in
set_option maxRecDepth 100000 in
theorem con215_217 (k : Lay β) (hk : k.sz = 1) (p : β → Bool) (P : Nat → Prop) (W : World) (A : Option Addr) (n c : Nat) (xs : List β) (h : k.row W P A n xs) (hn : n ≤ 100000)
    (hp : ∀ X x u, Ext W X → k.rep X P x [u] → Calls Tryz.prog 217 #[u] X (fun e X' => e = .returned (.bool (p x)) ∧ Ext X X')) :
    Calls Tryz.prog 215 #[.slice A n c, .func (.func 217) #[] #[]] W (fun e W' => e = .returned (.bool (xs.any p)) ∧ Ext W W') := by
  have HI := Lib.hid (idx238_217 k hk p P W A n c xs h hn hp)
  have HA := Lib.hid (idxI_any p xs)
  clear h hp
  obtain ⟨v, hv⟩ : ∃ v, v = idxI p xs := ⟨_, rfl⟩
  rw [← hv] at HI HA
  clear hv
  go_enter Tryz.func215, Tryz.ntmps215
  go_wp2_with (first | (go_at_call 238; refine (HI.out).mono ?_; rintro e w1 ⟨rfl, hx1⟩))
  go_ret
  exact ⟨by rw [← HA.out]; rfl, hx1⟩

set_option maxHeartbeats 4000000 in
set_option maxRecDepth 100000 in
theorem idx243_223 (k : Lay β) (hk : k.sz = 1) (p : β → Bool) (P : Nat → Prop) (W : World) (A : Option Addr) (n c : Nat) (xs : List β) (h : k.row W P A n xs) (hn : n ≤ 100000)
    (hp : ∀ X x u, Ext W X → k.rep X P x [u] → Calls Tryz.prog 223 #[u] X (fun e X' => e = .returned (.bool (p x)) ∧ Ext X X')) :
    Calls Tryz.prog 243 #[.slice A n c, .func (.func 223) #[] #[]] W (fun e W' => e = .returned (.int .i64 (idxI p xs)) ∧ Ext W W') := by
  have hl := Lay.row_len h
  have HR := Lib.hid h
  have HP := Lib.hid hp
  have HL := Lib.hid hl
  clear h hp hl
  go_enter Tryz.func243, Tryz.ntmps243
  go_wp2_with fail
  go_loopw [8] (fun s8 w' => IdRel p W xs s8 w') (fun s8 _ => toM n s8)
  case atStart => exact ⟨0, by omega, rfl, fun y hy => by simp at hy, Ext.refl _⟩
  case round =>
    obtain ⟨i, hi, rfl, ht, hx⟩ := hrel
    rw [← HL.out] at hi
    have HT := Lib.hid ht
    have HX := Lib.hid hx
    clear ht hx
    by_cases hlt : i < n
    case neg =>
      obtain rfl : i = n := by omega
      have hni : ¬ ((i : Int) < (i : Int)) := by omega
      have HF := Lib.hid (show idxI p xs = -1 from idxI_neg p xs (by have := HT.out; rw [HL.out, List.take_length] at this; exact this))
      go_wp2_with fail
      go_ret
      exact ⟨ret_i HF.out.symm, HX.out⟩
    have hI : (i : Int) < (n : Int) := by omega
    obtain ⟨x, hxi⟩ : ∃ x, xs[i]? = some x := ⟨_, List.getElem?_eq_getElem (by have := HL.out; omega)⟩
    obtain ⟨b, off, cs, rfl, hb, _, hrep, hc⟩ := Lay.row_at (Lay.row_ext HR.out HX.out) hxi
    obtain ⟨u, rfl⟩ : ∃ u, cs = [u] := by
      have := k.len hrep
      rw [hk] at this
      exact List.length_eq_one_iff.1 this
    have hcell := hc 0 u rfl
    rw [hk, Nat.mul_one, Nat.add_zero] at hcell
    have h1u := k.one hrep u (by simp)
    have HC := Lib.hid (HP.out _ x u HX.out hrep)
    have HXI := Lib.hid hxi
    clear hc hrep hxi
    obtain ⟨q, hq⟩ : ∃ q, q = p x := ⟨_, rfl⟩
    rw [← hq] at HC
    have HQ := Lib.hid hq
    clear hq
    cases q with
    | true =>
      have HF := Lib.hid (show idxI p xs = i from idxI_at p xs i x HT.out HXI.out HQ.out.symm)
      go_wp2_with (first | (go_at_call 223; refine (HC.out).mono ?_; rintro e w1 ⟨rfl, hx1⟩))
      go_ret
      exact ⟨ret_i HF.out.symm, HX.out.trans hx1⟩
    | false =>
      go_wp2_with (first | (go_at_call 223; refine (HC.out).mono ?_; rintro e w1 ⟨rfl, hx1⟩))
      go_roundw
      case rel => exact ⟨i + 1, by have := HL.out; omega, by simp, take_none HT.out HXI.out HQ.out.symm, HX.out.trans hx1⟩
      case measure => simp only [toM]; omega

set_option maxHeartbeats 2000000 in
set_option maxRecDepth 100000 in
theorem con222_223 (k : Lay β) (hk : k.sz = 1) (p : β → Bool) (P : Nat → Prop) (W : World) (A : Option Addr) (n c : Nat) (xs : List β) (h : k.row W P A n xs) (hn : n ≤ 100000)
    (hp : ∀ X x u, Ext W X → k.rep X P x [u] → Calls Tryz.prog 223 #[u] X (fun e X' => e = .returned (.bool (p x)) ∧ Ext X X')) :
    Calls Tryz.prog 222 #[.slice A n c, .func (.func 223) #[] #[]] W (fun e W' => e = .returned (.bool (xs.any p)) ∧ Ext W W') := by
  have HI := Lib.hid (idx243_223 k hk p P W A n c xs h hn hp)
  have HA := Lib.hid (idxI_any p xs)
  clear h hp
  obtain ⟨v, hv⟩ : ∃ v, v = idxI p xs := ⟨_, rfl⟩
  rw [← hv] at HI HA
  clear hv
  go_enter Tryz.func222, Tryz.ntmps222
  go_wp2_with (first | (go_at_call 243; refine (HI.out).mono ?_; rintro e w1 ⟨rfl, hx1⟩))
  go_ret
  exact ⟨by rw [← HA.out]; rfl, hx1⟩

set_option maxHeartbeats 4000000 in
set_option maxRecDepth 100000 in
theorem idx250_248 (k : Lay β) (hk : k.sz = 1) (p : β → Bool) (P : Nat → Prop) (W : World) (A : Option Addr) (n c : Nat) (xs : List β) (h : k.row W P A n xs) (hn : n ≤ 100000)
    (hp : ∀ X x u, Ext W X → k.rep X P x [u] → Calls Tryz.prog 248 #[u] X (fun e X' => e = .returned (.bool (p x)) ∧ Ext X X')) :
    Calls Tryz.prog 250 #[.slice A n c, .func (.func 248) #[] #[]] W (fun e W' => e = .returned (.int .i64 (idxI p xs)) ∧ Ext W W') := by
  have hl := Lay.row_len h
  have HR := Lib.hid h
  have HP := Lib.hid hp
  have HL := Lib.hid hl
  clear h hp hl
  go_enter Tryz.func250, Tryz.ntmps250
  go_wp2_with fail
  go_loopw [8] (fun s8 w' => IdRel p W xs s8 w') (fun s8 _ => toM n s8)
  case atStart => exact ⟨0, by omega, rfl, fun y hy => by simp at hy, Ext.refl _⟩
  case round =>
    obtain ⟨i, hi, rfl, ht, hx⟩ := hrel
    rw [← HL.out] at hi
    have HT := Lib.hid ht
    have HX := Lib.hid hx
    clear ht hx
    by_cases hlt : i < n
    case neg =>
      obtain rfl : i = n := by omega
      have hni : ¬ ((i : Int) < (i : Int)) := by omega
      have HF := Lib.hid (show idxI p xs = -1 from idxI_neg p xs (by have := HT.out; rw [HL.out, List.take_length] at this; exact this))
      go_wp2_with fail
      go_ret
      exact ⟨ret_i HF.out.symm, HX.out⟩
    have hI : (i : Int) < (n : Int) := by omega
    obtain ⟨x, hxi⟩ : ∃ x, xs[i]? = some x := ⟨_, List.getElem?_eq_getElem (by have := HL.out; omega)⟩
    obtain ⟨b, off, cs, rfl, hb, _, hrep, hc⟩ := Lay.row_at (Lay.row_ext HR.out HX.out) hxi
    obtain ⟨u, rfl⟩ : ∃ u, cs = [u] := by
      have := k.len hrep
      rw [hk] at this
      exact List.length_eq_one_iff.1 this
    have hcell := hc 0 u rfl
    rw [hk, Nat.mul_one, Nat.add_zero] at hcell
    have h1u := k.one hrep u (by simp)
    have HC := Lib.hid (HP.out _ x u HX.out hrep)
    have HXI := Lib.hid hxi
    clear hc hrep hxi
    obtain ⟨q, hq⟩ : ∃ q, q = p x := ⟨_, rfl⟩
    rw [← hq] at HC
    have HQ := Lib.hid hq
    clear hq
    cases q with
    | true =>
      have HF := Lib.hid (show idxI p xs = i from idxI_at p xs i x HT.out HXI.out HQ.out.symm)
      go_wp2_with (first | (go_at_call 248; refine (HC.out).mono ?_; rintro e w1 ⟨rfl, hx1⟩))
      go_ret
      exact ⟨ret_i HF.out.symm, HX.out.trans hx1⟩
    | false =>
      go_wp2_with (first | (go_at_call 248; refine (HC.out).mono ?_; rintro e w1 ⟨rfl, hx1⟩))
      go_roundw
      case rel => exact ⟨i + 1, by have := HL.out; omega, by simp, take_none HT.out HXI.out HQ.out.symm, HX.out.trans hx1⟩
      case measure => simp only [toM]; omega

set_option maxHeartbeats 2000000 in
set_option maxRecDepth 100000 in
theorem con247_248 (k : Lay β) (hk : k.sz = 1) (p : β → Bool) (P : Nat → Prop) (W : World) (A : Option Addr) (n c : Nat) (xs : List β) (h : k.row W P A n xs) (hn : n ≤ 100000)
    (hp : ∀ X x u, Ext W X → k.rep X P x [u] → Calls Tryz.prog 248 #[u] X (fun e X' => e = .returned (.bool (p x)) ∧ Ext X X')) :
    Calls Tryz.prog 247 #[.slice A n c, .func (.func 248) #[] #[]] W (fun e W' => e = .returned (.bool (xs.any p)) ∧ Ext W W') := by
  have HI := Lib.hid (idx250_248 k hk p P W A n c xs h hn hp)
  have HA := Lib.hid (idxI_any p xs)
  clear h hp
  obtain ⟨v, hv⟩ : ∃ v, v = idxI p xs := ⟨_, rfl⟩
  rw [← hv] at HI HA
  clear hv
  go_enter Tryz.func247, Tryz.ntmps247
  go_wp2_with (first | (go_at_call 250; refine (HI.out).mono ?_; rintro e w1 ⟨rfl, hx1⟩))
  go_ret
  exact ⟨by rw [← HA.out]; rfl, hx1⟩
end Go.Proofs.YtdbnddmncbjobaaGreatDoor

/- Valid and Check's closures: walked. -/
namespace Go.Proofs.YtdbnddmncbjobaaGreatDoor
open Go Go.RowKit

set_option maxHeartbeats 2000000 in
set_option maxRecDepth 100000 in
theorem gvalid_any (S : ByteArray) (w : World) (hL : EnvW w) : Calls Tryz.prog 218 #[.string S] w (fun e w' => e = .returned (.bool (validW S.data.toList)) ∧ w' = w) := by
  have HW := Lib.hid (width_any S w hL)
  obtain ⟨v, hv⟩ : ∃ v, v = wid S.data.toList := ⟨_, rfl⟩
  rw [← hv] at HW
  have HV := Lib.hid (show validW S.data.toList = decide (0 < v) by unfold validW; rw [hv])
  clear hv hL
  go_enter Tryz.func218, Tryz.ntmps218
  go_wp2_with (first | (go_at_call 219; refine (HW.out).mono ?_; rintro e w1 ⟨rfl, rfl⟩))
  go_ret
  exact ⟨by rw [HV.out]; rfl, rfl⟩
theorem many_any (A : Option Addr) (n c : Nat) (w : World) : Calls Tryz.prog 216 #[.slice A n c] w (fun e w' => e = .returned (.bool (decide (500 < n))) ∧ w' = w) := by
  have HV := Lib.hid (show decide ((500 : Int) < (n : Int)) = decide (500 < n) from decide_eq_decide.2 (by omega))
  go_enter Tryz.func216, Tryz.ntmps216
  go_wp2_with fail
  go_ret
  exact ⟨by rw [← HV.out]; rfl, rfl⟩
theorem none_any (A : Option Addr) (n c : Nat) (w : World) : Calls Tryz.prog 217 #[.slice A n c] w (fun e w' => e = .returned (.bool (decide (n = 0))) ∧ w' = w) := by
  obtain ⟨q, hq⟩ : ∃ q, q = decide (n = 0) := ⟨_, rfl⟩
  have HQ := Lib.hid hq
  by_cases h : n = 0
  · subst h
    go_enter Tryz.func217, Tryz.ntmps217
    go_wp2_with fail
    go_ret
    exact ⟨rfl, rfl⟩
  · have h' : ¬ (n : Int) = 0 := by omega
    have HN := Lib.hid (show decide (n = 0) = false from decide_eq_false h)
    clear hq HQ
    go_enter Tryz.func217, Tryz.ntmps217
    go_wp2_with fail
    go_ret
    exact ⟨by rw [HN.out]; simp [h], rfl⟩
/-- The tests of the parts' lengths. -/
theorem parts_many (P : Nat → Prop) (W : World) (A : Option Addr) (n c : Nat) (xs : List (List Wd)) (h : kWs.row W P A n xs) (hn : n ≤ 100000) :
    Calls Tryz.prog 215 #[.slice A n c, .func (.func 216) #[] #[]] W (fun e W' => e = .returned (.bool (xs.any fun p => decide (500 < p.length))) ∧ Ext W W') :=
  con215_216 kWs rfl _ P W A n c xs h hn fun X x u hx hr => by
    obtain ⟨A', c', e, _, _⟩ := kWs_rep.1 hr
    obtain rfl : u = .slice A' x.length c' := by simpa using e
    exact (many_any A' x.length c' X).mono fun e w' ⟨h1, h2⟩ => ⟨h1, by rw [h2]; exact Ext.refl _⟩
theorem parts_none (P : Nat → Prop) (W : World) (A : Option Addr) (n c : Nat) (xs : List (List Wd)) (h : kWs.row W P A n xs) (hn : n ≤ 100000) :
    Calls Tryz.prog 215 #[.slice A n c, .func (.func 217) #[] #[]] W (fun e W' => e = .returned (.bool (xs.any fun p => decide (p.length = 0))) ∧ Ext W W') :=
  con215_217 kWs rfl _ P W A n c xs h hn fun X x u hx hr => by
    obtain ⟨A', c', e, _, _⟩ := kWs_rep.1 hr
    obtain rfl : u = .slice A' x.length c' := by simpa using e
    exact (none_any A' x.length c' X).mono fun e w' ⟨h1, h2⟩ => ⟨h1, by rw [h2]; exact Ext.refl _⟩
end Go.Proofs.YtdbnddmncbjobaaGreatDoor

/- slack: walked. -/
namespace Go.Proofs.YtdbnddmncbjobaaGreatDoor
open Go Go.RowKit

/-- The element i of a row of numbers. -/
theorem int_at {W : World} {P : Nat → Prop} {A : Option Addr} {n : Nat} {xs : List Int} (h : kInt.row W P A n xs) {i : Nat} {x : Int} (hi : xs[i]? = some x) :
    ∃ b off, A = some ⟨b, off, none⟩ ∧ b < W.heap.size ∧ P b ∧ W.cell? ⟨b, off + i, none⟩ = some (.int .i64 x) := by
  obtain ⟨b, off, cs, e, hb, hp, hr, hc⟩ := Lay.row_at h hi
  have hr : cs = [.int .i64 x] := hr
  subst hr
  have := hc 0 _ rfl
  rw [show kInt.sz = 1 from rfl, Nat.mul_one, Nat.add_zero] at this
  exact ⟨b, off, e, hb, hp, this⟩
def slackF (m : Int) (ws : List Int) : Int := ws.foldl (fun s w => s - (w + 6)) (m + 6)
theorem slackF_bd {m : Int} (hm0 : 0 ≤ m) (hm : m ≤ 2000) (ws : List Int) (h : Wds ws) : slackF m ws ≤ 2006 ∧ -(486 * (ws.length : Int)) ≤ slackF m ws := by
  suffices ∀ (l : List Int) (s : Int), Wds l → l.foldl (fun s w => s - (w + 6)) s ≤ s ∧ s - 486 * (l.length : Int) ≤ l.foldl (fun s w => s - (w + 6)) s by
    have := this ws (m + 6) h
    unfold slackF; omega
  intro l
  induction l with
  | nil => intro s _; simp
  | cons a r ih =>
    intro s hl
    have h1 := hl a (by simp)
    have := ih (s - (a + 6)) hl.tail
    simp only [List.foldl_cons, List.length_cons]
    omega
def SkRel (m : Int) (ws : List Int) (W : World) (s5 s12 : Value) (w' : World) : Prop := ∃ i : Nat, i ≤ ws.length ∧ s12 = .int .i64 i ∧ s5 = .int .i64 (slackF m (ws.take i)) ∧ W = w'
set_option maxHeartbeats 4000000 in
set_option maxRecDepth 100000 in
theorem slack_any (P : Nat → Prop) (w : World) (A : Option Addr) (n c : Nat) (ws : List Int) (m : Int) (h : kInt.row w P A n ws) (hw : Wds ws) (hn : n ≤ 500) (hm0 : 0 ≤ m) (hm : m ≤ 2000) :
    Calls Tryz.prog 242 #[.slice A n c, .int .i64 m] w (fun e w' => e = .returned (.int .i64 (slackP ws m)) ∧ w' = w) := by
  have HL := Lib.hid (Lay.row_len h)
  have HR := Lib.hid h
  have HW := Lib.hid hw
  clear h hw
  go_enter Tryz.func242, Tryz.ntmps242
  go_wp2_with fail
  go_loopw [5, 12] (fun s5 s12 w' => SkRel m ws w s5 s12 w') (fun _ s12 _ => toM n s12)
  case atStart => exact ⟨0, by omega, rfl, rfl, rfl⟩
  case round =>
    obtain ⟨i, hi, rfl, rfl, rfl⟩ := hrel
    rw [← HL.out] at hi
    have hb := slackF_bd hm0 hm (ws.take i) (fun x hx => HW.out x (List.mem_of_mem_take hx))
    have hti : (ws.take i).length ≤ 500 := by rw [List.length_take]; omega
    obtain ⟨s, hs⟩ : ∃ s, s = slackF m (ws.take i) := ⟨_, rfl⟩
    rw [← hs] at hb ⊢
    have HS := Lib.hid hs
    clear hs
    by_cases hlt : i < n
    case neg =>
      obtain rfl : i = n := by omega
      have hni : ¬ ((i : Int) < (i : Int)) := by omega
      have HF := Lib.hid (show slackP ws m = s by rw [HS.out, HL.out, List.take_length]; rfl)
      go_wp2_with fail
      go_ret
      exact ⟨ret_i HF.out.symm, rfl⟩
    have hI : (i : Int) < (n : Int) := by omega
    obtain ⟨x, hxi⟩ : ∃ x, ws[i]? = some x := ⟨_, List.getElem?_eq_getElem (by have := HL.out; omega)⟩
    obtain ⟨b, off, rfl, hb1, _, hcell⟩ := int_at HR.out hxi
    have hx := HW.out x (List.mem_of_getElem? hxi)
    have HX := Lib.hid hxi
    clear hxi
    have b1 : -300000 ≤ s := by omega
    have b2 : s ≤ 2006 := hb.1
    clear hb hti
    go_wp2_with fail
    go_roundw
    case rel =>
      refine ⟨i + 1, by have := HL.out; omega, by simp, ?_, rfl⟩
      rw [List.take_add_one, HX.out, HS.out]
      simp [slackF]
    case measure => simp only [toM]; omega
end Go.Proofs.YtdbnddmncbjobaaGreatDoor

/- para.check: walked, at regular arguments. -/
namespace Go.Proofs.YtdbnddmncbjobaaGreatDoor
open Go Go.RowKit

theorem wout_any (x : Int) (w : World) : Calls Tryz.prog 248 #[.int .i64 x] w (fun e w' => e = .returned (.bool (decide (x < 1 ∨ 480 < x))) ∧ w' = w) := by
  generalize hq : decide (x < 1 ∨ 480 < x) = q
  by_cases h1 : x < 1
  · have HN := Lib.hid (hq.symm.trans (decide_eq_true (.inl h1)))
    clear hq
    go_enter Tryz.func248, Tryz.ntmps248
    go_wp2_with fail
    go_ret
    exact ⟨by rw [HN.out]; rfl, rfl⟩
  · have HN := Lib.hid (hq.symm.trans (show decide (x < 1 ∨ 480 < x) = decide (480 < x) from decide_eq_decide.2 (by omega)))
    clear hq
    go_enter Tryz.func248, Tryz.ntmps248
    go_wp2_with fail
    go_ret
    exact ⟨by rw [HN.out]; rfl, rfl⟩
/-- Widths of words. -/
def Wdr (ws : List Int) : Prop := ∀ w ∈ ws, 1 ≤ w ∧ w ≤ 480
theorem Wdr.wds {ws : List Int} (h : Wdr ws) : Wds ws := fun w hw => by have := h w hw; omega
theorem regular_any (P : Nat → Prop) (w : World) (A : Option Addr) (n c : Nat) (ws : List Int) (h : kInt.row w P A n ws) (hw : Wdr ws) (hn : n ≤ 100000) :
    Calls Tryz.prog 247 #[.slice A n c, .func (.func 248) #[] #[]] w (fun e w' => e = .returned (.bool false) ∧ Ext w w') :=
  (con247_248 kInt rfl (fun x => decide (x < 1 ∨ 480 < x)) P w A n c ws h hn fun X x u hx hr => by
    have hr : [u] = [.int .i64 x] := hr
    obtain rfl : u = .int .i64 x := by simpa using hr
    exact (wout_any x X).mono fun e w' ⟨h1, h2⟩ => ⟨h1, by rw [h2]; exact Ext.refl _⟩).mono fun e w' ⟨h1, h2⟩ => ⟨by
      have : ws.any (fun x => decide (x < 1 ∨ 480 < x)) = false := by
        rw [List.any_eq_false]
        intro x hx
        have := hw x hx
        simp only [decide_eq_true_eq]; omega
      rw [this] at h1; exact h1, h2⟩
set_option maxHeartbeats 4000000 in
set_option maxRecDepth 100000 in
theorem pcheck_any (P : Nat → Prop) (w : World) (A : Option Addr) (n c : Nat) (ws : List Int) (m : Int) (h : kInt.row w P A n ws) (hw : Wdr ws) (hn : n ≤ 500) (hm0 : 500 ≤ m) (hm : m ≤ 2000) :
    Calls Tryz.prog 240 #[.slice A n c, .int .i64 m] w (fun e w' => e = .returned (.int .i64 0) ∧ Ext w w') := by
  have HR := Lib.hid (fun X (hx : Ext w X) => regular_any P X A n c ws (Lay.row_ext h hx) hw (by omega))
  have h1 : ¬ (500 : Int) < (n : Int) := by omega
  have h2 : ¬ m < 500 := by omega
  have h3 : ¬ (2000 : Int) < m := by omega
  clear h hw
  go_enter Tryz.func240, Tryz.ntmps240
  go_wp2_with (first | (go_at_call 247; refine (HR.out _ (Ext.refl _)).mono ?_; rintro e w1 ⟨rfl, hx1⟩))
  go_ret
  exact ⟨rfl, hx1⟩
end Go.Proofs.YtdbnddmncbjobaaGreatDoor

/- copy of elements of several cells; elements that are set in a row of the call's own. -/
namespace Go.Proofs.YtdbnddmncbjobaaGreatDoor
open Go Go.RowKit

variable {β : Type}
theorem run_copy_sz {P : Program} (w : World) (dT sT ty elem : TypeId) (g o dLen dCap sz : Nat) (a : Addr) (sLen sCap : Nat) (cur : Array Value) (t : TypeId) (cs : List Value)
    (hu : P.underlying dT = some (.slice elem)) (hs : (P.info? elem).map (·.size) = some sz)
    (hg : w.heap[g]? = some (.cells cur t (0, 0))) (hn : cs.length = Nat.min sLen dLen * sz)
    (hsrc : ∀ j v, cs[j]? = some v → w.cell? (a.add j) = some v) (hfit : o + cs.length ≤ cur.size) (h1 : ∀ v ∈ cs, v.oneCell' = true) :
    (Builtin.copy_ #[dT, sT] ty #[.slice (some ⟨g, o, none⟩) dLen dCap, .slice (some a) sLen sCap]).run P w =
      .ok (goInt (Nat.min sLen dLen)) (w.setRow g (cur.toList.take o ++ cs ++ cur.toList.drop (o + cs.length)).toArray) := by
  have hl := run_loadCells_list (P := P) w a cs hsrc
  have hst := run_storeCells_at P g o t cs 0 cur w hg (by simpa using hfit) h1
  cases hq : P.info? elem with
  | none => simp [hq] at hs
  | some i =>
    have hi : i.size = sz := by simpa [hq] using hs
    simp [Builtin.copy_, run_underlying hu, Builtin.lenOf, Builtin.firstCells, sizeOf, typeInfo, hq, hi, ← hn, hl, hst]
theorem run_copy_zero {P : Program} (w : World) (dT sT ty elem : TypeId) (d : Option Addr) (a : Option Addr) (dLen dCap sLen sCap sz : Nat) (hu : P.underlying dT = some (.slice elem)) (hs : (P.info? elem).map (·.size) = some sz) (hn : Nat.min sLen dLen = 0) :
    (Builtin.copy_ #[dT, sT] ty #[.slice d dLen dCap, .slice a sLen sCap]).run P w = .ok (goInt 0) w := by
  cases hq : P.info? elem with
  | none => simp [hq] at hs
  | some i =>
    have hl : ∀ (x : Addr), (loadCells x 0).run P w = .ok #[] w := fun x => by simpa using run_loadCells_list (P := P) w x [] (by simp)
    cases d <;> cases a <;> simp [Builtin.copy_, run_underlying hu, Builtin.lenOf, Builtin.firstCells, sizeOf, typeInfo, hq, hn, storeCells, hl]
/-- copy, where its run is known. -/
theorem wpList_copy_run' {P : Program} {w : World} {ops : Array Oper} {rest : List Oper} {o : Oper} {a : Act} {Q : Exit → Act → World → Prop} {s x : Operand} {t t' : TypeId} {vs vx v' : Value} {w' : World}
    (hr : (Builtin.copy_ #[t, t'] o.type #[vs, vx]).run P w = .ok v' w') (hgd : o.guard = none)
    (ho : o.op = .call { callee := .builtin .copy, args := #[s, x], argTypes := #[t, t'] }) (hs : a.eval s = vs) (hx : a.eval x = vx)
    (h : wpList P ops Q rest (a.put o.dst v') w') : wpList P ops Q (o :: rest) a w := by
  refine wpList_plain hgd fun _ hK => ?_
  unfold Oper.wp execOp
  simp only [ho, resolve, invoke, builtin, Sem.run_bind, Sem.run_pure, Result.andThen_ok, List.map_toArray, List.map_cons, List.map_nil, hs, hx, hr]
  exact hK _ _ h
theorem mkCs {sz : Nat} (cs : List Value) (h : cs.length = sz) (h1 : ∀ u ∈ cs, u.oneCell' = true) : ∃ d : Cs sz, ccf d = cs := ⟨⟨cs, h, h1⟩, rfl⟩
theorem gcells_set {sz : Nat} (ds : List (Cs sz)) : ∀ (i : Nat) (d : Cs sz), i < ds.length → gcells ccf (ds.set i d) = (gcells ccf ds).take (i * sz) ++ ccf d ++ (gcells ccf ds).drop (i * sz + sz) := by
  induction ds with
  | nil => intro i d h; cases h
  | cons a r ih =>
    intro i d h
    have ha : (ccf a).length = sz := ccf_len a
    cases i with
    | zero =>
      rw [List.set_cons_zero]
      show ccf d ++ gcells ccf r = (ccf a ++ gcells ccf r).take (0 * sz) ++ ccf d ++ (ccf a ++ gcells ccf r).drop (0 * sz + sz)
      rw [show 0 * sz = 0 by omega, List.take_zero, List.nil_append, show 0 + sz = (ccf a).length by omega, List.drop_left]
    | succ i =>
      rw [List.set_cons_succ]
      show ccf a ++ gcells ccf (r.set i d) = (ccf a ++ gcells ccf r).take ((i + 1) * sz) ++ ccf d ++ (ccf a ++ gcells ccf r).drop ((i + 1) * sz + sz)
      rw [ih i d (Nat.lt_of_succ_lt_succ h), show (i + 1) * sz = (ccf a).length + i * sz by rw [Nat.succ_mul]; omega, List.take_append, List.take_of_length_le (l := ccf a) (i := (ccf a).length + i * sz) (by omega), show (ccf a).length + i * sz - (ccf a).length = i * sz by omega, show (ccf a).length + i * sz + sz = (ccf a).length + (i * sz + sz) by omega,
        List.drop_append, List.drop_of_length_le (l := ccf a) (i := (ccf a).length + (i * sz + sz)) (by omega), show (ccf a).length + (i * sz + sz) - (ccf a).length = i * sz + sz by omega, List.nil_append, List.append_assoc, List.append_assoc, List.append_assoc]
theorem set4_list (l : List Value) (o : Nat) (h : o + 4 ≤ l.length) (a b c d : Value) : (((l.set o a).set (o + 1) b).set (o + 2) c).set (o + 3) d = l.take o ++ [a, b, c, d] ++ l.drop (o + 4) := by
  apply List.ext_getElem?
  intro i
  simp only [List.getElem?_set, List.length_set]
  rw [List.append_assoc, List.getElem?_append]
  have hl : (l.take o).length = o := by simp; omega
  rw [hl]
  by_cases h1 : i < o
  · rw [if_pos h1, if_neg (by omega), if_neg (by omega), if_neg (by omega), if_neg (by omega), List.getElem?_take, if_pos h1]
  · rw [if_neg h1]
    by_cases e0 : i = o
    · subst e0; rw [if_neg (by omega), if_neg (by omega), if_neg (by omega), if_pos rfl, if_pos (by omega)]; simp
    by_cases e1 : i = o + 1
    · subst e1; rw [if_neg (by omega), if_neg (by omega), if_pos rfl, if_pos (by omega)]; simp
    by_cases e2 : i = o + 2
    · subst e2; rw [if_neg (by omega), if_pos rfl, if_pos (by omega)]; simp
    by_cases e3 : i = o + 3
    · subst e3; rw [if_pos rfl, if_pos (by omega)]; simp
    rw [if_neg (by omega), if_neg (by omega), if_neg (by omega), if_neg (by omega), List.getElem?_append_right (by simp; omega), List.getElem?_drop]
    congr 1
    simp; omega
theorem put4_eq (L : List Value) (s N i : Nat) (hs : s = 4) (hl : L.length = N * s) (hi : i < N) (a b c d : Value) : L.take (i * s) ++ [a, b, c, d] ++ L.drop (i * s + s) = (((L.set (i * 4) a).set (i * 4 + 1) b).set (i * 4 + 2) c).set (i * 4 + 3) d := by
  subst hs
  rw [set4_list _ _ (by omega)]
/-- An element is set. -/
theorem Lay.own_put4 {k : Lay β} (hk : k.sz = 4) {e : TypeId} {W : World} {base g n c : Nat} {P : Nat → Prop} {xs : List β} (h : k.own e W base P (.slice (some ⟨g, 0, none⟩) n c) xs) {i : Nat} (hi : i < xs.length) {u0 u1 u2 u3 : Value} {x : β}
    (hr : k.rep W (fun j => P j ∧ (Value.slice (some ⟨g, 0, none⟩) n c).ownBlock ≠ some j) x [u0, u1, u2, u3]) :
    k.own e ((((W.setCell ⟨g, i * 4, none⟩ u0).setCell ⟨g, i * 4 + 1, none⟩ u1).setCell ⟨g, i * 4 + 2, none⟩ u2).setCell ⟨g, i * 4 + 3, none⟩ u3) base P (.slice (some ⟨g, 0, none⟩) n c) (xs.set i x) := by
  obtain ⟨ds, h1, h2, h3⟩ := h
  have hn : n = ds.length := by
    rcases h1.2 with ⟨h1, _⟩ | ⟨g', cap, cur, h1, _⟩
    · cases h1
    · injection h1
  subst hn
  obtain ⟨d0, hd0⟩ : ∃ d0 : Cs k.sz, ccf d0 = [u0, u1, u2, u3] := mkCs _ (k.len hr) (k.one hr)
  rw [← hd0] at hr
  unfold OL at h1
  obtain ⟨s1, g1⟩ := World.ownsRow.stored h1 (i * 4) u0
  obtain ⟨s2, g2⟩ := World.ownsRow.stored s1 (i * 4 + 1) u1
  obtain ⟨s3, g3⟩ := World.ownsRow.stored s2 (i * 4 + 2) u2
  obtain ⟨s4, g4⟩ := World.ownsRow.stored s3 (i * 4 + 3) u3
  have hl := gcells_len (cf := ccf) ccf_len ds
  have hkeep : ∀ j, j < W.heap.size → (Value.slice (some ⟨g, 0, none⟩) ds.length c).ownBlock ≠ some j → ((((W.setCell ⟨g, i * 4, none⟩ u0).setCell ⟨g, i * 4 + 1, none⟩ u1).setCell ⟨g, i * 4 + 2, none⟩ u2).setCell ⟨g, i * 4 + 3, none⟩ u3).heap[j]? = W.heap[j]? := fun j _ hj => by
    have hj : j ≠ g := fun e => hj (by rw [e]; rfl)
    rw [heap_setCell_other _ ⟨g, i * 4 + 3, none⟩ j u3 hj, heap_setCell_other _ ⟨g, i * 4 + 2, none⟩ j u2 hj, heap_setCell_other _ ⟨g, i * 4 + 1, none⟩ j u1 hj, heap_setCell_other _ ⟨g, i * 4, none⟩ j u0 hj]
  have hw : W.heap.size ≤ ((((W.setCell ⟨g, i * 4, none⟩ u0).setCell ⟨g, i * 4 + 1, none⟩ u1).setCell ⟨g, i * 4 + 2, none⟩ u2).setCell ⟨g, i * 4 + 3, none⟩ u3).heap.size := by simp
  refine ⟨ds.set i d0, ?_, by rw [List.length_set, List.length_set, h2], fun j d y hd hy => ?_⟩
  · unfold OL
    have e2 : gcells ccf (ds.set i d0) = ((((gcells ccf ds).set (i * 4) u0).set (i * 4 + 1) u1).set (i * 4 + 2) u2).set (i * 4 + 3) u3 := by
      rw [gcells_set ds i _ (by omega), hd0]
      exact put4_eq _ _ ds.length i hk hl (by omega) _ _ _ _
    rw [e2, List.length_set]
    exact s4
  · rw [List.getElem?_set] at hd hy
    by_cases hij : i = j
    · rw [if_pos hij, if_pos (by omega)] at hd
      rw [if_pos hij, if_pos (by omega)] at hy
      injection hd with hd; injection hy with hy
      subst hd hy
      exact k.keep hr hw fun j hj hl => hkeep j hl hj.2
    · rw [if_neg hij] at hd hy
      exact k.keep (h3 j d y hd hy) hw fun j hj hl => hkeep j hl hj.2
theorem own_base {k : Lay β} {e : TypeId} {W : World} {base base' : Nat} {P : Nat → Prop} {v : Value} {xs : List β} (h : k.own e W base P v xs) (hb : base' ≤ base) : k.own e W base' P v xs := by
  obtain ⟨ds, h1, h2, h3⟩ := h
  refine ⟨ds, ⟨h1.1, ?_⟩, h2, h3⟩
  rcases h1.2 with h | ⟨g, cap, cur, h1, h2, h3⟩
  · exact .inl h
  · exact .inr ⟨g, cap, cur, h1, Nat.le_trans hb h2, h3⟩
/-- What is in a row of its own, all of it in blocks from base on. -/
theorem own_rowN {k : Lay β} {e : TypeId} {W : World} {base : Nat} {P Q : Nat → Prop} {v : Value} {xs : List β} (h : k.own e W base P v xs) (hP : ∀ j, P j → j < W.heap.size → Q j) (hb : ∀ j, base ≤ j → j < W.heap.size → Q j) : ∃ A c, v = .slice A xs.length c ∧ xs.length ≤ c ∧ k.row W Q A xs.length xs := by
  have hlt := Lay.own_lt h
  obtain ⟨A, c, e, hc, hr⟩ := Lay.own_row h
  exact ⟨A, c, e, hc, Lay.row_mono hr fun j hj hl => by
    rcases hj with hj | hj
    · exact hP j hj hl
    · exact hb j (hlt j hj).1 hl⟩
/-- A row of elements that is made new: all of it zero. -/
theorem own_zero {k : Lay β} (e : TypeId) (w : World) (P : Nat → Prop) (x : β) (cs : List Value) (hr : ∀ W Q, k.rep W Q x cs) (n : Nat) (hn : n ≤ 1000000) (zs : Array Value) (hz : zs.toList = (List.replicate n cs).flatten) (w' : World) (g : Nat) (hg : w'.heap[g]? = some (.cells zs e (0, 0))) (hb : w.heap.size ≤ g) :
    k.own e w' w.heap.size P (.slice (some ⟨g, 0, none⟩) n n) (List.replicate n x) := by
  have hl := k.len (hr w P)
  have ho := k.one (hr w P)
  have hlz := congrArg List.length hz
  rw [List.length_flatten, List.map_replicate, List.sum_replicate_nat, hl] at hlz
  obtain ⟨d0, hd0⟩ : ∃ d0 : Cs k.sz, ccf d0 = cs := mkCs _ hl ho
  have e1 : gcells ccf (List.replicate n d0) = (List.replicate n cs).flatten := by
    unfold gcells
    rw [List.flatMap_def, List.map_replicate, hd0]
  have hlr : (List.replicate n d0).length = n := List.length_replicate
  refine ⟨List.replicate n d0, ⟨by rw [gcells_len ccf_len], .inr ⟨g, n, zs, by rw [hlr], hb, hg, by rw [hlr]; exact Nat.le_refl _, by simp only [maxLen]; omega, by simpa using hlz, ?_⟩⟩, by rw [hlr, List.length_replicate], fun i d y hd hy => ?_⟩
  · rw [e1, ← hz, List.take_of_length_le]
    rw [hlr]; omega
  · rw [List.getElem?_replicate] at hd hy
    split at hd
    · next hi =>
      rw [if_pos hi] at hy
      injection hd with hd
      injection hy with hy
      subst hd hy
      show k.rep _ _ _ (ccf d0)
      rw [hd0]
      exact hr _ _
    · cases hd
/-- make of n elements. -/
theorem run_mk {P : Program} {t e : TypeId} {z : Value} {size bytes : Nat} (ht : P.underlying t = some (.slice e)) (hinfo : (P.info? e).map (fun i => (i.zero, i.size, i.bytes)) = some (some z, size, bytes)) (hby : bytes ≤ 1000) (n : Nat) (hn : n ≤ 1000000) (N : Int) (hN : N = (n : Int)) (W : World) :
    (Instr.makeSlice t (.int .i64 N) (.int .i64 N)).run P W = .ok (.slice (some ⟨W.heap.size, 0, none⟩) n n) (W.alloc (.cells (madeCells z.cells (n * size)) e)) := by
  subst hN
  obtain ⟨i, hi, hz, hs, hb⟩ := info_parts hinfo
  subst hs
  have hb' : (i.bytes : Int) * (n : Int) ≤ 281474976710656 := by
    have h : i.bytes * n ≤ 1000 * 1000000 := Nat.mul_le_mul (by omega) hn
    have h2 : ((i.bytes * n : Nat) : Int) ≤ 281474976710656 := by omega
    rwa [Int.natCast_mul] at h2
  have hr := run_make (P := P) W t e i z ht hi hz .i64 .i64 n n (by omega) (Int.le_refl _) hb' (by omega)
  simpa only [Int.toNat_natCast] using hr
theorem made_flat (z : Array Value) (_hz : 0 < z.size) (n : Nat) : (madeCells z (n * z.size)).toList = (List.replicate n z.toList).flatten := by
  apply List.ext_getElem?
  intro i
  unfold madeCells
  induction n generalizing i with
  | zero => simp
  | succ n ih =>
    rw [List.replicate_succ, List.flatten_cons, List.getElem?_append]
    by_cases hi : i < z.size
    · rw [if_pos (by simpa using hi)]
      have h1 : i < (n + 1) * z.size := by rw [Nat.succ_mul]; omega
      simp [h1, Nat.mod_eq_of_lt hi, hi]
    · rw [if_neg (by simpa using hi), Array.length_toList, ← ih (i - z.size)]
      have h3 : (i - z.size) % z.size = i % z.size := by rw [Nat.mod_eq_sub_mod (a := i) (by omega)]
      by_cases h1 : i < (n + 1) * z.size
      · have h2 : i - z.size < n * z.size := by rw [Nat.succ_mul] at h1; omega
        simp [h1, h2, h3]
      · have h2 : ¬ (i - z.size < n * z.size) := by rw [Nat.succ_mul] at h1; omega
        simp [h1, h2]
theorem info3 : (Tryz.prog.info? 3).map (fun i => (i.zero, i.size, i.bytes)) = some (some (Value.int .i64 0), 1, 8) := by kernel_rfl
/-- make of n numbers: the cells are a variable of the walk's. -/
theorem mkInts (n : Nat) (hn : n ≤ 1000000) (N : Int) (hN : N = (n : Int)) : ∃ Z : Array Value, (∀ W b, W.heap[b]? = some (.cells Z 3 (0, 0)) → Arr W b (List.replicate n 0)) ∧ ∀ W, (Instr.makeSlice 22 (.int .i64 N) (.int .i64 N)).run Tryz.prog W = .ok (.slice (some ⟨W.heap.size, 0, none⟩) n n) (W.alloc (.cells Z 3)) := by
  refine ⟨_, fun W b h => ?_, fun W => run_mk (P := Tryz.prog) Tryz.underlying22 info3 (by omega) n hn N hN W⟩
  unfold Arr
  rw [h]
  congr 1
  have := made_flat #[Value.int .i64 0] (by simp) n
  have e : madeCells (Value.int .i64 0).cells (n * 1) = ((List.replicate n (0 : Int)).map (Value.int .i64)).toArray := by
    apply Array.ext'
    refine this.trans ?_
    simp
  rw [e]
end Go.Proofs.YtdbnddmncbjobaaGreatDoor

/- The best lines: what stands in the two arrays. -/
namespace Go.Proofs.YtdbnddmncbjobaaGreatDoor

/-- The best way from the word i on. -/
def bst (m : Int) (ws : List Int) (i : Nat) : Int × Nat := (best m (ws.drop i)).headD (0, 0)
theorem bst_cons (m : Int) (ws : List Int) {i : Nat} (hi : i ≤ ws.length) : ∃ l, best m (ws.drop i) = bst m ws i :: l ∧ (i < ws.length → l = best m (ws.drop (i + 1))) := by
  unfold bst
  by_cases h : i < ws.length
  · obtain ⟨w, hw⟩ : ∃ w, ws[i]? = some w := ⟨_, List.getElem?_eq_getElem h⟩
    rw [dwl' ws hw]
    exact ⟨_, rfl, fun _ => rfl⟩
  · rw [List.drop_of_length_le (by omega)]
    exact ⟨[], rfl, fun h' => absurd h' h⟩
theorem bst_end (m : Int) (ws : List Int) : bst m ws ws.length = (0, 0) := by
  unfold bst; rw [List.drop_length]; rfl
theorem bst_pk (m : Int) (ws : List Int) {i : Nat} (hi : i < ws.length) : bst m ws i = pk (m + 6) (ws.drop i) (best m (ws.drop (i + 1))) 0 0 0 := by
  unfold bst
  obtain ⟨w, hw⟩ : ∃ w, ws[i]? = some w := ⟨_, List.getElem?_eq_getElem hi⟩
  rw [dwl' ws hw]
  rfl
theorem bst_bd {m : Int} (hm : 500 ≤ m) {ws : List Int} (h : Wds ws) {i : Nat} (hi : i < ws.length) : 1 ≤ (bst m ws i).2 ∧ i + (bst m ws i).2 ≤ ws.length := by
  obtain ⟨w, hw⟩ : ∃ w, ws[i]? = some w := ⟨_, List.getElem?_eq_getElem hi⟩
  have hd := dwl' ws hw
  obtain ⟨b, l, e, h1, h2⟩ := best_bd hm (w := w) (r := ws.drop (i + 1)) (fun x hx => h x (List.mem_of_mem_drop (i := i) (by rw [hd]; exact hx)))
  unfold bst
  rw [hd, e]
  simp only [List.headD_cons]
  rw [List.length_drop] at h2
  omega
theorem bst_cost {m : Int} (hm : 0 ≤ m) (hm2 : m ≤ 2000) {ws : List Int} (h : Wds ws) (hn : ws.length ≤ 500) (i : Nat) : 0 ≤ (bst m ws i).1 ∧ (bst m ws i).1 ≤ 3000000000 := by
  have h1 := best_cost hm (ws.drop i) (fun x hx => h x (List.mem_of_mem_drop hx)) 0
  unfold bst
  cases hb : best m (ws.drop i) with
  | nil => simp
  | cons b l =>
    rw [hb] at h1
    have := h1 b rfl
    simp only [List.headD_cons]
    refine ⟨this.1, Int.le_trans this.2 ?_⟩
    have h2 : m * m ≤ 2000 * 2000 := Int.mul_le_mul hm2 hm2 hm (by omega)
    have h3 : m * m * ((ws.drop i).length + 1 - 0 : Nat) ≤ 2000 * 2000 * (501 : Int) := Int.mul_le_mul h2 (by rw [List.length_drop]; omega) (by omega) (by omega)
    omega
/-- A step of the search. -/
theorem pk_step (m : Int) (ws : List Int) {q : Nat} (hq : q < ws.length) (w : Int) (hw : ws[q]? = some w) (kk : Nat) (s c : Int) (e : Nat) :
    pk s (ws.drop q) (best m (ws.drop (q + 1))) kk c e =
      if s - (w + 6) < 0 then (c, e) else if q + 1 = ws.length then (0, kk + 1)
      else if kk = 0 ∨ (s - (w + 6)) * (s - (w + 6)) + (bst m ws (q + 1)).1 ≤ c then pk (s - (w + 6)) (ws.drop (q + 1)) (best m (ws.drop (q + 1 + 1))) (kk + 1) ((s - (w + 6)) * (s - (w + 6)) + (bst m ws (q + 1)).1) (kk + 1)
      else pk (s - (w + 6)) (ws.drop (q + 1)) (best m (ws.drop (q + 1 + 1))) (kk + 1) c e := by
  obtain ⟨l, hl, hl2⟩ := bst_cons m ws (i := q + 1) (by omega)
  rw [dwl' ws hw, hl]
  simp only [pk]
  by_cases h1 : s - (w + 6) < 0
  · rw [if_pos h1, if_pos h1]
  rw [if_neg h1, if_neg h1]
  by_cases h2 : q + 1 = ws.length
  · rw [if_pos h2, if_pos (by rw [List.drop_of_length_le (by omega)]; rfl)]
  · rw [if_neg h2, if_neg (by
      rw [List.isEmpty_iff]
      intro hx
      have := congrArg List.length hx
      rw [List.length_drop] at this
      simp only [List.length_nil] at this
      omega)]
    rw [hl2 (by omega)]
/-- The ends behind a word. -/
theorem cum_step {m : Int} (hm : 500 ≤ m) {ws : List Int} (h : Wds ws) {i : Nat} (hi : i < ws.length) : cum i (lens (ws.drop i) m) = ((i + (bst m ws i).2 : Nat) : Int) :: cum ((i + (bst m ws i).2 : Nat) : Int) (lens (ws.drop (i + (bst m ws i).2)) m) := by
  have hd : ws.drop i ≠ [] := by
    intro hx
    have := congrArg List.length hx
    rw [List.length_drop] at this
    simp only [List.length_nil] at this
    omega
  obtain ⟨b, l, e, h1, h2, h3⟩ := lens_cons hm (ws := ws.drop i) (fun x hx => h x (List.mem_of_mem_drop hx)) hd
  have hb : b = bst m ws i := by unfold bst; rw [e]; rfl
  subst hb
  rw [h3, cum, List.drop_drop, Int.natCast_add]
theorem cum_end (m : Int) (ws : List Int) (f : Int) : cum f (lens (ws.drop ws.length) m) = [] := by
  rw [List.drop_length]; rfl
end Go.Proofs.YtdbnddmncbjobaaGreatDoor

/- para.Ends: walked. -/
namespace Go.Proofs.YtdbnddmncbjobaaGreatDoor
open Go Go.RowKit

/-- What stands in the arrays: from d on the best costs and ends. -/
structure EnA (m : Int) (ws : List Int) (d : Nat) (cl el : List Int) : Prop where
  cn : cl.length = ws.length + 1
  en : el.length = ws.length + 1
  c : ∀ k, d ≤ k → k ≤ ws.length → cl[k]? = some (bst m ws k).1
  e : ∀ k, d ≤ k → k < ws.length → el[k]? = some ((k + (bst m ws k).2 : Nat) : Int)
def EnO (w : World) (bc be : Nat) (m : Int) (ws : List Int) (s10 : Value) (w' : World) : Prop := ∃ (d : Nat) (cl el : List Int), d ≤ ws.length ∧ (d = 0 ∧ s10 = .int .i64 (-1) ∨ ∃ i : Nat, d = i + 1 ∧ s10 = .int .i64 i) ∧ Ext w w' ∧ Arr w' bc cl ∧ Arr w' be el ∧ EnA m ws d cl el
def EnI (w : World) (bc be : Nat) (m : Int) (ws : List Int) (i : Nat) (cl el : List Int) (s11 s12 : Value) (w' : World) : Prop := ∃ (q : Nat) (s c : Int) (e : Nat) (x y : Int), i ≤ q ∧ q < ws.length ∧ s11 = .int .i64 s ∧ s12 = .int .i64 ((q : Int) + 1) ∧
  Ext w w' ∧ Arr w' bc (cl.set i x) ∧ Arr w' be (el.set i y) ∧ (i < q → x = c ∧ y = ((i + e : Nat) : Int)) ∧ (q = i → s = m + 6) ∧ 0 ≤ s ∧ s ≤ m + 6 ∧
  bst m ws i = pk s (ws.drop q) (best m (ws.drop (q + 1))) (q - i) c e
theorem EnA.step {m : Int} {ws : List Int} {i : Nat} {cl el : List Int} (h : EnA m ws (i + 1) cl el) (hi : i < ws.length) {x : Int} {e : Nat} (hb : bst m ws i = (x, e)) : EnA m ws i (cl.set i x) (el.set i ((i + e : Nat) : Int)) := by
  refine ⟨by rw [List.length_set, h.cn], by rw [List.length_set, h.en], fun k h1 h2 => ?_, fun k h1 h2 => ?_⟩
  · rw [List.getElem?_set]
    by_cases hk : i = k
    · subst hk; rw [if_pos rfl, if_pos (by rw [h.cn]; omega), hb]
    · rw [if_neg hk]; exact h.c k (by omega) h2
  · rw [List.getElem?_set]
    by_cases hk : i = k
    · subst hk; rw [if_pos rfl, if_pos (by rw [h.en]; omega), hb]
    · rw [if_neg hk]; exact h.e k (by omega) h2
theorem set_same (l : List Int) (i : Nat) (h : i < l.length) : l.set i (l[i]?.getD 0) = l := by
  rw [List.getElem?_eq_getElem h]
  exact List.set_getElem_self h
def EnL (w : World) (be : Nat) (base : Nat) (m : Int) (ws el : List Int) (s13 s14 : Value) (w' : World) : Prop := ∃ (i : Nat) (done : List Int), i ≤ ws.length ∧ s14 = .int .i64 i ∧ base ≤ w'.heap.size ∧ Ext w w' ∧ Arr w' be el ∧ kInt.own 3 w' base (fun _ => True) s13 done ∧ done.length ≤ i ∧
  cum 0 (lens ws m) = done ++ cum i (lens (ws.drop i) m)
/-- Two arrays, in whatever order they were made. -/
def EnM (w : World) (n : Nat) (s8 s9 : Value) (w' : World) : Prop := ∃ bc be, bc ≠ be ∧ w.heap.size ≤ bc ∧ w.heap.size ≤ be ∧ s8 = .slice (some ⟨bc, 0, none⟩) (n + 1) (n + 1) ∧ s9 = .slice (some ⟨be, 0, none⟩) (n + 1) (n + 1) ∧ Ext w w' ∧ Arr w' bc (List.replicate (n + 1) 0) ∧ Arr w' be (List.replicate (n + 1) 0)
def toU (v : Value) : Nat := match v with | .int _ z => (z + 1).toNat | _ => 0
theorem Arr.alloc {w : World} {b : Nat} {l : List Int} (h : Arr w b l) (o : Obj) : Arr (w.alloc o) b l := h.ext ((Ext.refl w).alloc _)
set_option maxHeartbeats 8000000 in
set_option maxRecDepth 100000 in
theorem ends_any (P : Nat → Prop) (w : World) (A : Option Addr) (n c : Nat) (ws : List Int) (m : Int) (h : kInt.row w P A n ws) (hw : Wdr ws) (hn : n ≤ 500) (hm0 : 500 ≤ m) (hm : m ≤ 2000) :
    Calls Tryz.prog 220 #[.slice A n c, .int .i64 m] w (fun e w' => ∃ A' c', e = .returned (.tuple #[.slice A' (lens ws m).length c', .int .i64 0]) ∧ kInt.own 3 w' w.heap.size (fun _ => True) (.slice A' (lens ws m).length c') (cum 0 (lens ws m)) ∧ Ext w w') := by
  have HL := Lib.hid (Lay.row_len h)
  have HR := Lib.hid h
  have HW := Lib.hid hw
  have HC := Lib.hid (pcheck_any P w A n c ws m h hw hn hm0 hm)
  clear h hw
  go_enter Tryz.func220, Tryz.ntmps220
  go_wp2_with (first | (go_at_call 240; refine (HC.out).mono ?_; rintro e w1 ⟨rfl, hx1⟩))
  have HX1 := Lib.hid hx1
  clear hx1
  go_cut [8, 9] (fun s8 s9 wx => EnM w1 n s8 s9 wx)
  case first =>
    obtain ⟨Z, hz, hmk⟩ := mkInts (n + 1) (by omega) ((n : Int) + 1) (by simp)
    have HZ := Lib.hid hz
    clear hz
    have hA := HZ.out ((w1.drew.alloc (.cells Z 3)).alloc (.cells Z 3)) w1.heap.size ((Below.heap_alloc _ _ _ (by simp)).trans (heap_alloc_new w1.drew _))
    have hB := HZ.out ((w1.drew.alloc (.cells Z 3)).alloc (.cells Z 3)) (w1.heap.size + 1) (by have := heap_alloc_new (w1.drew.alloc (.cells Z 3)) (.cells Z 3); rwa [World.size_alloc] at this)
    have HA := Lib.hid hA
    have HB := Lib.hid hB
    have HXW := Lib.hid (show Ext w1 ((w1.drew.alloc (.cells Z 3)).alloc (.cells Z 3)) from ((Ext.refl w1).drew.alloc _).alloc _)
    clear hA hB
    go_region
    · go_wp2_with fail
      go_meet
      case rel => exact ⟨w1.heap.size, w1.heap.size + 1, by omega, by omega, by omega, rfl, rfl, HXW.out, HA.out, HB.out⟩
    · go_wp2_with fail
      go_meet
      case rel => exact ⟨w1.heap.size + 1, w1.heap.size, by omega, by omega, by omega, rfl, rfl, HXW.out, HB.out, HA.out⟩
  case rest =>
    obtain ⟨bc, be, hne, hbc, hbe, rfl, rfl, hxc, hac, hae⟩ := hcut
    have HAC := Lib.hid hac
    have HAE := Lib.hid hae
    have HXC := Lib.hid (HX1.out.trans hxc)
    have hbc' := Nat.le_trans HX1.out.lt hbc
    have hbe' := Nat.le_trans HX1.out.lt hbe
    clear hac hae hxc
    obtain ⟨N1, hN1⟩ : ∃ N1 : Int, (n : Int) - 1 = N1 := ⟨_, rfl⟩
    go_wp2_with fail
    have HN1 := Lib.hid hN1
    clear hN1
    go_loopw [10, 11, 12] (fun s10 s11 s12 w' => EnO w bc be m ws s10 w') (fun s10 s11 s12 _ => toU s10)
    case atStart =>
      refine ⟨ws.length, _, _, Nat.le_refl _, ?_, HXC.out, HAC.out, HAE.out, by simp [HL.out], by simp [HL.out], fun k h1 h2 => by
        obtain rfl : k = ws.length := by omega
        rw [bst_end]; simp [HL.out], fun k h1 h2 => by omega⟩
      rcases Nat.eq_zero_or_pos n with h0 | h0
      · exact .inl ⟨by have := HL.out; omega, by rw [← HN1.out, h0]; rfl⟩
      · exact .inr ⟨n - 1, by have := HL.out; omega, by rw [← HN1.out, Int.natCast_sub (by omega)]; rfl⟩
    case round =>
      obtain ⟨d, cl, el, hd, hs10, hx, ha, hb, hA⟩ := hrel
      have HX := Lib.hid hx
      have HA := Lib.hid ha
      have HB := Lib.hid hb
      have HE := Lib.hid hA
      clear hx ha hb hA HAC HAE HXC
      rcases hs10 with ⟨rfl, rfl⟩ | ⟨i, rfl, rfl⟩
      · go_wp2_with fail
        have hbelt : be < wr.heap.size := HB.out.lt
        go_loopw [13, 14] (fun s13 s14 w' => EnL w be wr.heap.size m ws el s13 s14 w') (fun _ s14 _ => toM n s14)
        case atStart => exact ⟨0, [], by omega, rfl, Nat.le_refl _, HX.out, HB.out, Lay.own_nil _ _ _ _ _, Nat.le_refl _, by simp⟩
        case round =>
          obtain ⟨i, done, hi, rfl, hbs, hx2, hb2, ho2, hdl, hcu⟩ := hrel
          have HX2 := Lib.hid hx2
          have HB2 := Lib.hid hb2
          have HO2 := Lib.hid ho2
          have HCU := Lib.hid hcu
          clear hx2 hb2 ho2 hcu
          by_cases hlt : i < n
          case neg =>
            obtain rfl : i = n := by have := HL.out; omega
            have hni : ¬ ((i : Int) < (i : Int)) := by omega
            go_wp2_with fail
            obtain ⟨A9, c9, rfl, _⟩ := Lay.own_row HO2.out
            have HD := Lib.hid (show cum 0 (lens ws m) = done by
              have := HCU.out
              rw [HL.out, cum_end, List.append_nil] at this
              exact this)
            have HDL := Lib.hid (show (lens ws m).length = done.length by rw [← HD.out, cum_len])
            refine bodyPost_ret (v := .tuple #[.slice A9 done.length c9, .int .i64 0]) (by simp [results, Tryz.results220, go_sem, *]) rfl ?_
            exact ⟨A9, c9, by rw [HDL.out], by rw [HDL.out, HD.out]; exact own_base HO2.out HX.out.lt, HX2.out⟩
          have hI : (i : Int) < (n : Int) := by omega
          have hbd := bst_bd (m := m) hm0 HW.out.wds (i := i) (by have := HL.out; omega)
          have hcs := cum_step hm0 HW.out.wds (i := i) (by have := HL.out; omega)
          rw [← HL.out] at hbd
          have hel := HE.out.e i (by omega) (by have := HL.out; omega)
          obtain ⟨x, hx⟩ : ∃ x, x = i + (bst m ws i).2 := ⟨_, rfl⟩
          rw [← hx] at hbd hcs hel
          have hce := HB2.out.cell hel
          have hlto := Lay.own_lt HO2.out
          obtain ⟨A9, c9, w9, hrun, ho9, hb9, hk9, hs9, _⟩ := own_app1 (k := kInt) (Pr := Tryz.prog) (t := 22) Tryz.underlying22 info3 rfl (by decide) (by omega) HO2.out hbs (cs := #[.int .i64 x]) (T := 3) (x := (x : Int)) rfl 1 (by omega)
          have hbn : u13.ownBlock ≠ some be := fun e => by have := (hlto be e).1; omega
          have hB9 := HB2.out.keep (hk9 be HB2.out.lt hbn)
          have hce9 := hB9.cell hel
          have HX9 := Lib.hid (show Ext w w9 from Below.trans HX2.out (hb9 w.heap.size HX.out.lt))
          have HB9 := Lib.hid hB9
          have HO9 := Lib.hid ho9
          have HCS := Lib.hid hcs
          have h1x : i < x := by omega
          have h2x : x ≤ n := hbd.2
          have HS9 := Lib.hid hs9
          clear hB9 ho9 hb9 hk9 hlto hcs hel hs9 hx hbd
          go_wp2_with (first | (at_builtin; refine wpList_append_run (s := .tmp 105) (x := .tmp 110) hrun rfl rfl rfl rfl rfl ?_))
          go_roundw
          case rel => exact ⟨x, done ++ [(x : Int)], by have := HL.out; omega, rfl, Nat.le_trans hbs HS9.out, HX9.out, HB9.out, HO9.out, by simp; omega, by rw [HCU.out, HCS.out]; simp⟩
          case measure => simp only [toM]; omega
      · have hin : i < n := by have := HL.out; omega
        go_wp2_with fail
        go_step3
        go_wp2_with fail
        go_step3
        go_wp2_with fail
        go_loopw [11, 12] (fun s11 s12 w' => EnI w bc be m ws i cl el s11 s12 w') (fun _ s12 _ => toM (n + 2) s12)
        case atStart =>
          refine ⟨i, m + 6, 0, 0, cl[i]?.getD 0, el[i]?.getD 0, Nat.le_refl _, by omega, rfl, rfl, HX.out, ?_, ?_, fun h => absurd h (Nat.lt_irrefl _), fun _ => rfl, by omega, Int.le_refl _, ?_⟩
          · rw [set_same _ _ (by rw [HE.out.cn]; omega)]; exact HA.out
          · rw [set_same _ _ (by rw [HE.out.en]; omega)]; exact HB.out
          · rw [Nat.sub_self]; exact bst_pk m ws (by omega)
        case round =>
          obtain ⟨q, s, c1, e1, x, y, hiq, hqn, rfl, rfl, hx, ha, hb, hxy, hs0, hs1, hs2, heq⟩ := hrel
          obtain ⟨v, hv⟩ : ∃ v, ws[q]? = some v := ⟨_, List.getElem?_eq_getElem hqn⟩
          have hvb := HW.out v (List.mem_of_getElem? hv)
          obtain ⟨b0, off, rfl, hb0, _, hcell⟩ := int_at (Lay.row_ext HR.out hx) hv
          have hst := pk_step m ws hqn v hv (q - i) s c1 e1
          rw [← heq] at hst
          obtain ⟨z, hz⟩ : ∃ z, s - (v + 6) = z := ⟨_, rfl⟩
          rw [hz] at hst
          have HST := Lib.hid hst
          have HXr := Lib.hid hx
          have HAr := Lib.hid ha
          have HBr := Lib.hid hb
          have HXY := Lib.hid hxy
          clear hst heq hv hx ha hb hxy
          have hq5 : (q : Int) < 500 := by have := HL.out; omega
          have hq6 : (q : Int) < (n : Int) := by have := HL.out; omega
          by_cases hz0 : z < 0
          · have hiq' : i < q := by
              rcases Nat.lt_or_ge i q with h | h
              · exact h
              · have := hs0 (by omega); omega
            have HEN := Lib.hid (HE.out.step (x := c1) (e := e1) (by omega) (by have := HST.out; rwa [if_pos hz0] at this))
            obtain ⟨rfl, rfl⟩ := HXY.out hiq'
            clear hs0
            go_wp2_with fail
            go_roundw
            case rel =>
              refine ⟨i, _, _, by omega, ?_, HXr.out, HAr.out, HBr.out, HEN.out⟩
              rcases Nat.eq_zero_or_pos i with h0 | h0
              · exact .inl ⟨h0, by rw [h0]; rfl⟩
              · exact .inr ⟨i - 1, by omega, by rw [Int.natCast_sub (by omega)]; rfl⟩
            case measure => simp only [toU]; omega
          have hzs : z ≤ 2006 := by omega
          have hz1 : 0 ≤ z := by omega
          obtain ⟨zz, hzz⟩ : ∃ zz, z * z = zz := ⟨_, rfl⟩
          have hzz1 : 0 ≤ zz ∧ zz ≤ 4024036 := by
            rw [← hzz]
            exact ⟨Int.mul_nonneg hz1 hz1, Int.le_trans (Int.mul_le_mul hzs hzs hz1 (by omega)) (by omega)⟩
          obtain ⟨hzz2, hzz3⟩ := hzz1
          have hcj := bst_cost (m := m) (by omega) hm HW.out.wds (by have := HL.out; omega) (q + 1)
          have hcc := HE.out.c (q + 1) (by omega) (by omega)
          obtain ⟨cj, hcje⟩ : ∃ cj, (bst m ws (q + 1)).1 = cj := ⟨_, rfl⟩
          rw [hcje] at hcj hcc
          obtain ⟨hcj1, hcj2⟩ := hcj
          have HST2 := Lib.hid (show bst m ws i = if q + 1 = ws.length then (0, q - i + 1) else if q - i = 0 ∨ zz + cj ≤ c1 then pk z (ws.drop (q + 1)) (best m (ws.drop (q + 1 + 1))) (q - i + 1) (zz + cj) (q - i + 1) else pk z (ws.drop (q + 1)) (best m (ws.drop (q + 1 + 1))) (q - i + 1) c1 e1 from by have := HST.out; rwa [if_neg hz0, hzz, hcje] at this)
          have hfc := HAr.out.frozen i
          have hfe := HBr.out.frozen i
          have hxc := HAr.out.cell (show (cl.set i x)[i]? = some x by rw [List.getElem?_set, if_pos rfl, if_pos (by rw [HE.out.cn]; omega)])
          have hxe := HBr.out.cell (show (el.set i y)[i]? = some y by rw [List.getElem?_set, if_pos rfl, if_pos (by rw [HE.out.en]; omega)])
          have hxj := HAr.out.cell (show (cl.set i x)[q + 1]? = some cj by rw [List.getElem?_set, if_neg (by omega)]; exact hcc)
          clear HST hcje hcc
          by_cases hqe : q + 1 = n
          · have HEN := Lib.hid (HE.out.step (x := 0) (e := q - i + 1) (by omega) (by have := HST2.out; rwa [if_pos (by rw [← HL.out]; exact hqe)] at this))
            have HS0 := Lib.hid (HAr.out.set i 0)
            have HS1 := Lib.hid (HBr.out.set i n)
            rw [List.set_set] at HS0 HS1
            have HIQ := Lib.hid (show i + (q - i + 1) = n by omega)
            rw [HIQ.out] at HEN
            obtain rfl := hqe
            clear hs0
            go_wp2_with fail
            go_roundw
            case rel =>
              (repeat apply Exists.intro)
              refine ⟨?_, rfl⟩
              refine ⟨i, _, _, by omega, ?_, HXr.out.setCell (p := ⟨bc, i, none⟩) hbc' _ |>.setCell (p := ⟨be, i, none⟩) hbe' _, HS0.out.other hne _, (HBr.out.other (a := ⟨bc, i, none⟩) (Ne.symm hne) _).set i _, ?_⟩
              · rcases Nat.eq_zero_or_pos i with h0 | h0
                · exact .inl ⟨h0, by rw [h0]; rfl⟩
                · exact .inr ⟨i - 1, by omega, by rw [Int.natCast_sub (by omega)]; rfl⟩
              · rw [List.set_set]; exact HEN.out
            case measure => simp only [toU, Array.getD]; simp
          · have hqI : ¬ ((q : Int) + 1 = (n : Int)) := by omega
            have HST3 := Lib.hid (show bst m ws i = if q - i = 0 ∨ zz + cj ≤ c1 then pk z (ws.drop (q + 1)) (best m (ws.drop (q + 1 + 1))) (q - i + 1) (zz + cj) (q - i + 1) else pk z (ws.drop (q + 1)) (best m (ws.drop (q + 1 + 1))) (q - i + 1) c1 e1 from by have := HST2.out; rwa [if_neg (by rw [← HL.out]; exact hqe)] at this)
            clear HST2
            have HUP : q - i = 0 ∨ zz + cj ≤ c1 → ∀ nq, EnI w bc be m ws i cl el (.int .i64 z) (.int .i64 ((q : Int) + 1 + 1)) (((wr.drewN nq).setCell ⟨bc, i, none⟩ (.int .i64 (zz + cj))).setCell ⟨be, i, none⟩ (.int .i64 ((q : Int) + 1))) := fun hor nq => by
              have h3 := HST3.out
              rw [if_pos hor, show q - i + 1 = q + 1 - i by omega] at h3
              have hA := HAr.out.keep (w' := wr.drewN nq) (by simp)
              have hB := HBr.out.keep (w' := wr.drewN nq) (by simp)
              refine ⟨q + 1, z, _, _, zz + cj, (q : Int) + 1, by omega, by have := HL.out; omega, rfl, by simp, (HXr.out.drewN nq).setCell (p := ⟨bc, i, none⟩) hbc' _ |>.setCell (p := ⟨be, i, none⟩) hbe' _, ?_, ?_, fun _ => ⟨rfl, by omega⟩, fun h => by omega, hz1, by omega, h3⟩
              · have := (hA.set i (zz + cj)).other (a := ⟨be, i, none⟩) hne (.int .i64 ((q : Int) + 1))
                rwa [List.set_set] at this
              · have := (hB.other (a := ⟨bc, i, none⟩) (Ne.symm hne) (.int .i64 (zz + cj))).set i ((q : Int) + 1)
                rwa [List.set_set] at this
            by_cases hqi : i = q
            · have HUP1 := Lib.hid (HUP (.inl (by omega)))
              subst hqi
              clear HUP hs0
              go_wp2_with fail
              go_quiet (fail)
              go_wp2_with fail
              go_roundw
              case rel => exact HUP1.out _
              case measure => simp only [toM]; omega
            · have hiq' : i < q := by omega
              obtain ⟨e5, e6⟩ := HXY.out hiq'
              have hqI2 : ((q : Int) + 1 == (i : Int) + 1) = false := by rw [beq_eq_false_iff_ne]; omega
              have hw1 : IntKind.i64.wrap ((i : Int) + 1) = (i : Int) + 1 := IntWalk.i64_in _ (by omega)
              have hw2 : IntKind.i64.wrap zz = zz := IntWalk.i64_in _ (by omega)
              have hw3 : IntKind.i64.wrap (zz + cj) = zz + cj := IntWalk.i64_in _ (by omega)
              by_cases hle : zz + cj ≤ x
              · have HUP1 := Lib.hid (HUP (.inr (by omega)))
                clear HUP hs0 e5 e6
                go_wp2_with fail
                go_quiet (fail)
                go_wp2_with fail
                go_roundw
                case rel => exact HUP1.out _
                case measure => simp only [toM]; omega
              · have HNO : ∀ nq, EnI w bc be m ws i cl el (.int .i64 z) (.int .i64 ((q : Int) + 1 + 1)) (wr.drewN nq) := fun nq => by
                  have h3 := HST3.out
                  rw [if_neg (by omega), show q - i + 1 = q + 1 - i by omega] at h3
                  exact ⟨q + 1, z, _, _, x, y, by omega, by have := HL.out; omega, rfl, by simp, HXr.out.drewN nq, HAr.out.keep (w' := wr.drewN nq) (by simp), HBr.out.keep (w' := wr.drewN nq) (by simp), fun _ => ⟨e5, e6⟩, fun h => by omega, hz1, by omega, h3⟩
                have HNO1 := Lib.hid HNO
                have hle' : x < zz + cj := by omega
                clear HUP hs0 e5 e6 HNO
                go_wp2_with fail
                go_quiet (fail)
                go_wp2_with fail
                go_roundw
                case rel => exact HNO1.out _
                case measure => simp only [toM]; omega
end Go.Proofs.YtdbnddmncbjobaaGreatDoor

/- Lines, one by one. -/
namespace Go.Proofs.YtdbnddmncbjobaaGreatDoor

def ntsOf (ws : List Wd) : List Int := ws.filterMap fun w => if w.nt ≠ 0 then some (w.nt - 1) else none
theorem linesGo_len (m : Int) : ∀ (ls : List Nat) (ws : List Wd) (first : Int), (linesGo m ws ls first).length = ls.length := by
  intro ls
  induction ls with
  | nil => intro ws first; rfl
  | cons l ls ih => intro ws first; simp only [linesGo, List.length_cons, ih]
theorem linesGo_at (m : Int) : ∀ (ls : List Nat) (ws : List Wd) (first : Int) (i l : Nat), ls[i]? = some l →
    (linesGo m ws ls first)[i]? = some ⟨first + ((ls.take i).sum : Nat), first + (((ls.take i).sum + l : Nat) : Int), gapsP (((ws.drop (ls.take i).sum).take l).map fun w => wid w.s) m (decide (i + 1 = ls.length)), ntsOf ((ws.drop (ls.take i).sum).take l)⟩ := by
  intro ls
  induction ls with
  | nil => intro ws first i l h; simp at h
  | cons a r ih =>
    intro ws first i l h
    cases i with
    | zero =>
      obtain rfl : a = l := by simpa using h
      have : (r.isEmpty) = decide (0 + 1 = (a :: r).length) := by
        cases r <;> simp
      simp [linesGo, ntsOf, this]
    | succ i =>
      simp only [linesGo, List.getElem?_cons_succ]
      rw [ih (ws.drop a) (first + a) i l (by simpa using h)]
      simp only [List.take_succ_cons, List.sum_cons, List.drop_drop, List.length_cons, Option.some.injEq, Ln.mk.injEq, and_true]
      refine ⟨by omega, by omega, ?_⟩
      congr 1
      exact decide_eq_decide.2 (by omega)
theorem cum_at : ∀ (ls : List Nat) (f : Int) (i l : Nat), ls[i]? = some l → (cum f ls)[i]? = some (f + (((ls.take i).sum + l : Nat) : Int)) := by
  intro ls
  induction ls with
  | nil => intro f i l h; simp at h
  | cons a r ih =>
    intro f i l h
    cases i with
    | zero =>
      obtain rfl : a = l := by simpa using h
      simp [cum]
    | succ i =>
      simp only [cum, List.getElem?_cons_succ]
      rw [ih _ i l (by simpa using h)]
      simp only [List.take_succ_cons, List.sum_cons, Option.some.injEq]
      rw [Int.natCast_add, Int.natCast_add, Int.natCast_add]; omega
theorem sum_take_le (ls : List Nat) {i l : Nat} (h : ls[i]? = some l) : (ls.take i).sum + l ≤ ls.sum := by
  have h1 : (ls.take (i + 1)).sum = (ls.take i).sum + l := by rw [List.take_add_one, h]; simp
  have h2 := List.take_append_drop (i + 1) ls
  have h3 : ls.sum = (ls.take (i + 1)).sum + (ls.drop (i + 1)).sum := by rw [← List.sum_append, h2]
  omega
theorem sum_take_succ (ls : List Nat) {i l : Nat} (h : ls[i]? = some l) : (ls.take (i + 1)).sum = (ls.take i).sum + l := by
  rw [List.take_add_one, h]; simp
/-- The gap i of a line. -/
def gapAt (s k : Int) (i : Nat) : Int := 6 + s.tdiv k + (if (i : Int) < s.tmod k then 1 else 0)
theorem gapsGo_len (s k : Int) : ∀ (n : Nat) (i : Int), (gapsGo s k n i).length = n := by
  intro n
  induction n with
  | zero => intro i; rfl
  | succ n ih => intro i; simp [gapsGo, ih]
theorem gapsGo_at (s k : Int) : ∀ (n j i : Nat), i < n → (gapsGo s k n j)[i]? = some (gapAt s k (j + i)) := by
  intro n
  induction n with
  | zero => intro j i h; omega
  | succ n ih =>
    intro j i h
    cases i with
    | zero => simp [gapsGo, gapAt]
    | succ i =>
      simp only [gapsGo, List.getElem?_cons_succ]
      have := ih (j + 1) i (by omega)
      rw [Int.natCast_add] at this
      rw [show ((1 : Nat) : Int) = 1 from rfl] at this
      rw [this, show j + 1 + i = j + (i + 1) by omega]
theorem setP_lens (ws : List Wd) (first m : Int) : (setP ws first m).length = (lens (ws.map fun w => wid w.s) m).length := linesGo_len _ _ _ _
end Go.Proofs.YtdbnddmncbjobaaGreatDoor

/- slices.Repeat at one number; para.Gaps: walked. -/
namespace Go.Proofs.YtdbnddmncbjobaaGreatDoor
open Go Go.RowKit

theorem size3 : (Tryz.prog.info? 3).map (·.size) = some 1 := by kernel_rfl
def ReRel (w : World) (b k : Nat) (s8 : Value) (w' : World) : Prop := ∃ j : Nat, 1 ≤ j ∧ j ≤ k ∧ s8 = .int .i64 j ∧ Ext w w' ∧ Arr w' b (List.replicate j 6 ++ List.replicate (k - j) 0)
theorem splice_six (k j m : Nat) (hm : m ≤ k - j) : splice ((List.replicate j (6 : Int) ++ List.replicate (k - j) 0).map (Value.int .i64)) j ((List.replicate m (6 : Int)).map (Value.int .i64)) = (List.replicate (j + m) (6 : Int) ++ List.replicate (k - (j + m)) 0).map (Value.int .i64) := by
  unfold splice
  apply List.ext_getElem?
  intro i
  simp only [List.map_append, List.map_replicate, List.getElem?_append, List.getElem?_replicate, List.length_replicate, List.getElem?_take, List.getElem?_drop, List.length_take, List.length_append]
  repeat' split
  all_goals first | rfl | (exfalso; omega)
set_option maxHeartbeats 4000000 in
set_option maxRecDepth 100000 in
theorem repeat_any (w : World) (g k : Nat) (hk : 1 ≤ k) (hk2 : k ≤ 1000) (hg : w.cell? ⟨g, 0, none⟩ = some (.int .i64 6)) :
    Calls Tryz.prog 241 #[.slice (some ⟨g, 0, none⟩) 1 1, .int .i64 k] w (fun e w' => ∃ b, e = .returned (.slice (some ⟨b, 0, none⟩) k k) ∧ w.heap.size ≤ b ∧ Arr w' b (List.replicate k 6) ∧ Ext w w') := by
  have HM := Lib.hid (fun W => show Calls Tryz.prog 249 #[.int .u64 1, .int .u64 (k : Int)] W (fun e w' => e = .returned (.tuple #[.int .u64 0, .int .u64 (k : Int)]) ∧ w' = W) from by
    have := Tryz.bits_Mul 1 k (by omega) (by omega) W
    rwa [show (1 * k / 18446744073709551616 : Nat) = 0 by omega, show (1 * k % 18446744073709551616 : Nat) = k by omega] at this)
  obtain ⟨Z, hz, hmk⟩ := mkInts k (by omega) (k : Int) rfl
  have hB0 := hz (w.alloc (.cells Z 3)) w.heap.size (heap_alloc_new w _)
  unfold Arr at hB0
  have HB0 := Lib.hid hB0
  have HGC := Lib.hid hg
  have HGB := Lib.hid (World.block_lt_of_cell? w _ hg)
  have HSRC := Lib.hid (show ∀ j v, ((List.replicate 1 (6 : Int)).map (Value.int .i64))[j]? = some v → (w.alloc (.cells Z 3)).cell? ((⟨g, 0, none⟩ : Addr).add j) = some v from fun j v hj => by
    cases j with
    | zero =>
      simp only [List.replicate_one, List.map_cons, List.map_nil, List.getElem?_cons_zero, Option.some.injEq] at hj
      subst hj
      rw [Addr.add_lit]
      exact (((Ext.refl w).alloc (.cells Z 3)).cells.1 g 0 HGB.out).trans hg
    | succ j => simp at hj)
  clear hz hB0 hg
  go_enter Tryz.func241, Tryz.ntmps241
  go_wp2_with (first | (go_at_call 249; refine (HM.out _).mono ?_; rintro e w1 ⟨rfl, hw1⟩; obtain rfl := hw1.symm) | (refine wpList_copy_splice rfl (.tmp 31) (.tmp 32) 22 22 rfl 3 Tryz.underlying22 size3 _ _ k k 1 1 rfl rfl w.heap.size 0 ((List.replicate k (0 : Int)).map (Value.int .i64)) 3 HB0.out ((List.replicate 1 (6 : Int)).map (Value.int .i64)) (by rw [List.length_map, List.length_replicate]; exact (Nat.min_eq_left hk).symm) (fun _ => ⟨rfl, ⟨g, 0, none⟩, rfl, HSRC.out⟩) (by simp; omega) (by simp [Value.oneCell']) w.heap.size w ((Below.refl _ _).alloc (Nat.le_refl _) _) (Nat.le_refl _) ?_; intro w2 hg2 hb2))
  have hS := splice_six k 0 1 (by omega)
  simp only [List.replicate_zero, List.nil_append, Nat.sub_zero, Nat.zero_add] at hS
  rw [hS] at hg2
  have HB2 := Lib.hid (show Arr w2 w.heap.size (List.replicate 1 6 ++ List.replicate (k - 1) 0) from hg2.out)
  have HX2 := Lib.hid (show Ext w w2 from hb2)
  clear hS hg2 hb2
  go_loopw [8] (fun s8 w' => ReRel w w.heap.size k s8 w') (fun s8 _ => toM k s8)
  case atStart => exact ⟨1, by omega, hk, rfl, HX2.out, HB2.out⟩
  case round =>
    obtain ⟨j, hj1, hj2, rfl, hx, hb⟩ := hrel
    have HX := Lib.hid hx
    have HB := Lib.hid hb
    clear hx hb HX2 HB2
    by_cases hlt : j < k
    case neg =>
      obtain rfl : j = k := by omega
      have hni : ¬ ((j : Int) < (j : Int)) := by omega
      go_wp2_with fail
      go_ret
      exact ⟨w.heap.size, rfl, Nat.le_refl _, by have := HB.out; rwa [Nat.sub_self, List.replicate_zero, List.append_nil] at this, HX.out⟩
    have hI : (j : Int) < (k : Int) := by omega
    go_wp2_with fail
    obtain ⟨d, hd⟩ : ∃ d, Nat.min j (k - j) = d := ⟨_, rfl⟩
    have hd2 : min j (k - j) = d := hd
    have hd4 : 1 ≤ d := by omega
    have hd5 : d ≤ k - j := by omega
    have hd6 : d ≤ j := by omega
    have HSR := Lib.hid (show ∀ W : World, ∀ i v, ((List.replicate d (6 : Int)).map (Value.int .i64))[i]? = some v → W.heap[w.heap.size]? = wr.heap[w.heap.size]? → W.cell? ((⟨w.heap.size, 0, none⟩ : Addr).add i) = some v from fun W i v hv hW => by
      rw [List.getElem?_map, List.getElem?_replicate] at hv
      split at hv
      · next hi =>
        simp only [Option.map_some, Option.some.injEq] at hv
        subst hv
        rw [Addr.add_lit, Nat.zero_add]
        exact (HB.out.keep hW).cell (i := i) (x := 6) (by rw [List.getElem?_append_left (by rw [List.length_replicate]; omega), List.getElem?_replicate, if_pos (by omega)])
      · cases hv)
    have HFI := Lib.hid (show j + (List.map (Value.int IntKind.i64) (List.replicate d (6 : Int))).length ≤ ((List.replicate j (6 : Int) ++ List.replicate (k - j) 0).map (Value.int .i64)).length by rw [List.length_map, List.length_map, List.length_append, List.length_replicate, List.length_replicate, List.length_replicate]; omega)
    have HON := Lib.hid (show ∀ v ∈ (List.map (Value.int IntKind.i64) (List.replicate d (6 : Int))), v.oneCell' = true by
      intro v hv
      obtain ⟨x, _, rfl⟩ := List.mem_map.1 hv
      rfl)
    have HMI := Lib.hid (show (List.map (Value.int IntKind.i64) (List.replicate d (6 : Int))).length = Nat.min j (k - j) by rw [List.length_map, List.length_replicate]; exact hd.symm)
    have HBD := Lib.hid (show wr.drew.heap[w.heap.size]? = some (.cells ((List.replicate j (6 : Int) ++ List.replicate (k - j) 0).map (Value.int .i64)).toArray 3 (0, 0)) by have := HB.out; unfold Arr at this; exact this)
    have hwr : IntKind.i64.wrap ((j : Int) + (d : Int)) = (j : Int) + (d : Int) := IntWalk.i64_in _ (by omega)
    clear hd hd2
    go_region_held3 (fun _ => True) (trivial) (first | (refine step_copy_splice rfl (.tmp 41) (.tmp 44) 22 22 rfl 3 Tryz.underlying22 size3 (some ⟨w.heap.size, j, none⟩) (some ⟨w.heap.size, 0, none⟩) (k - j) (k - j) j k (by simp [Act.eval]; omega) (by simp [Act.eval]) w.heap.size j ((List.replicate j (6 : Int) ++ List.replicate (k - j) 0).map (Value.int .i64)) 3 HBD.out ((List.replicate d (6 : Int)).map (Value.int .i64)) HMI.out (fun _ => ⟨rfl, ⟨w.heap.size, 0, none⟩, rfl, fun i v hv => HSR.out _ i v hv rfl⟩) HFI.out HON.out w.heap.size w (Ext.drew HX.out) (Nat.le_refl _) ?_; intro w3 hg3 hb3))
    rw [splice_six k j d hd5] at hg3
    have HB3 := Lib.hid (show Arr w3 w.heap.size (List.replicate (j + d) 6 ++ List.replicate (k - (j + d)) 0) from hg3.out)
    have HX3 := Lib.hid (show Ext w w3 from hb3)
    clear hg3 hb3
    go_wp2_with fail
    go_roundw
    case rel => exact ⟨j + d, by omega, by omega, by simp, HX3.out, HB3.out⟩
    case measure => simp only [toM]; omega
end Go.Proofs.YtdbnddmncbjobaaGreatDoor

/- para.Gaps: walked. -/
namespace Go.Proofs.YtdbnddmncbjobaaGreatDoor
open Go Go.RowKit

theorem gcells_ints (l : List Int) : gcells ccf (l.map iCs) = l.map (Value.int .i64) := by
  induction l with
  | nil => rfl
  | cons a r ih =>
    show ccf (iCs a) ++ gcells ccf (r.map iCs) = _
    rw [ih]; rfl
/-- An array of its own as a row of its own. -/
theorem Arr.own {w : World} {b : Nat} {l : List Int} (h : Arr w b l) (hl : l.length ≤ 1000000) {base : Nat} (hb : base ≤ b) (P : Nat → Prop) : kInt.own 3 w base P (.slice (some ⟨b, 0, none⟩) l.length l.length) l := by
  refine ⟨l.map iCs, ⟨by rw [gcells_len ccf_len], .inr ⟨b, l.length, _, by rw [List.length_map], hb, h, by rw [List.length_map]; exact Nat.le_refl _, by simp only [maxLen]; omega, by simp [kInt], ?_⟩⟩, List.length_map .., fun i d x hd hx => ?_⟩
  · rw [gcells_ints, List.length_map, List.take_of_length_le]
    simp [kInt]
  · obtain ⟨y, hy, rfl⟩ := iCs_at hd
    rw [hy] at hx
    injection hx with hx
    subst hx
    rfl
def gapL (s : Int) (k i : Nat) : List Int := (gapsGo s k k 0).take i ++ List.replicate (k - i) 6
theorem gapL_set (s : Int) (k i : Nat) (hi : i < k) (x : Int) (hx : x = gapAt s k i) : (gapL s k i).set i x = gapL s k (i + 1) := by
  subst hx
  have hl := gapsGo_len s k k 0
  apply List.ext_getElem?
  intro j
  unfold gapL
  have hg : ∀ j, j < k → (gapsGo s k k 0)[j]? = some (gapAt s k j) := fun j hj => by
    have := gapsGo_at s k k 0 j hj
    rw [Nat.zero_add] at this
    exact this
  have hn : ∀ j, k ≤ j → (gapsGo s k k 0)[j]? = none := fun j hj => List.getElem?_eq_none (by omega)
  simp only [List.getElem?_set, List.getElem?_append, List.getElem?_take, List.length_append, List.length_take, hl, List.length_replicate, List.getElem?_replicate]
  rcases Nat.lt_or_ge j k with h | h
  · rw [hg j h]
    repeat' split
    all_goals first | rfl | (exfalso; omega) | (congr 2; omega) | (congr 2)
  · rw [hn j h]
    repeat' split
    all_goals first | rfl | (exfalso; omega)
theorem gapL_at (s : Int) (k i : Nat) (hi : i < k) : (gapL s k i)[i]? = some 6 := by
  unfold gapL
  rw [List.getElem?_append_right (by rw [List.length_take]; omega), List.getElem?_replicate, List.length_take, gapsGo_len, if_pos (by omega)]
def GpRel (w : World) (b k : Nat) (s : Int) (s26 : Value) (w' : World) : Prop := ∃ i : Nat, i ≤ k ∧ s26 = .int .i64 i ∧ Ext w w' ∧ Arr w' b (gapL s k i)
theorem slackP_bd {m : Int} (hm0 : 0 ≤ m) (hm : m ≤ 2000) (ws : List Int) (h : Wds ws) (hl : ws.length ≤ 500) : -300000 ≤ slackP ws m ∧ slackP ws m ≤ 2006 := by
  have := slackF_bd hm0 hm ws h
  have e : slackP ws m = slackF m ws := rfl
  rw [e]; omega
set_option maxHeartbeats 4000000 in
set_option maxRecDepth 100000 in
theorem gaps_any (P : Nat → Prop) (w : World) (A : Option Addr) (n c : Nat) (ws : List Int) (m : Int) (last : Bool) (h : kInt.row w P A n ws) (hw : Wds ws) (hn : n ≤ 500) (hm0 : 0 ≤ m) (hm : m ≤ 2000) :
    Calls Tryz.prog 221 #[.slice A n c, .int .i64 m, .bool last] w (fun e w' => ∃ A' c', e = .returned (.slice A' (gapsP ws m last).length c') ∧ kInt.own 3 w' w.heap.size (fun _ => True) (.slice A' (gapsP ws m last).length c') (gapsP ws m last) ∧ Ext w w') := by
  have hl := Lay.row_len h
  rcases Nat.lt_or_ge n 2 with h1 | h1
  · have HE := Lib.hid (show gapsP ws m last = [] by
      have : ws.length - 1 = 0 := by omega
      unfold gapsP
      rw [this]
      cases last <;> rfl)
    have h2 : (n : Int) - 1 < 1 := by omega
    clear h hl hw
    go_enter Tryz.func221, Tryz.ntmps221
    go_wp2_with fail
    go_ret
    exact ⟨none, 0, by rw [HE.out]; rfl, by rw [HE.out]; exact Lay.own_nil _ _ _ _ _, Ext.refl _⟩
  obtain ⟨k, rfl⟩ : ∃ k, n = k + 1 := ⟨n - 1, by omega⟩
  have HLN := Lib.hid (show ws.length - 1 = k by omega)
  have HR := Lib.hid h
  have HREP := Lib.hid (fun W g => repeat_any W g k (by omega) (by omega))
  have hbd := slackP_bd hm0 hm ws hw (by omega)
  have HSL := Lib.hid (fun W (hX : Ext w W) => slack_any P W A (k + 1) c ws m (Lay.row_ext h hX) hw (by omega) hm0 hm)
  obtain ⟨s, hs⟩ : ∃ s, slackP ws m = s := ⟨_, rfl⟩
  rw [hs] at HSL hbd
  have HS := Lib.hid hs
  have h1k : 1 ≤ (k : Int) := by omega
  have hk5 : (k : Int) ≤ 499 := by omega
  obtain ⟨hb1, hb2⟩ := hbd
  clear h hl hw hs
  cases last with
  | true =>
    go_enter Tryz.func221, Tryz.ntmps221
    go_wp2_with (first | (go_at_call 241; refine (HREP.out _ _ (by go_simp)).mono ?_; rintro e w1 ⟨b, rfl, hb, ha, hx⟩; have HA := Lib.hid ha; have HX := Lib.hid (((Ext.refl w).alloc _).trans hx); clear ha hx))
    go_ret
    have hg : gapsP ws m true = List.replicate k 6 := by unfold gapsP; rw [HLN.out]; rfl
    rw [hg, List.length_replicate]
    have := HA.out.own (by rw [List.length_replicate]; omega) (base := w.heap.size) (by rw [World.size_alloc] at hb; omega) (fun _ => True)
    rw [List.length_replicate] at this
    exact ⟨_, _, rfl, this, HX.out⟩
  | false =>
    obtain ⟨dv, hdv⟩ : ∃ dv, s.tdiv (k : Int) = dv := ⟨_, rfl⟩
    obtain ⟨md, hmd⟩ : ∃ md, s.tmod (k : Int) = md := ⟨_, rfl⟩
    have hdb : -300000 ≤ dv ∧ dv ≤ 300000 := by
      have := Int.natAbs_tdiv_le_natAbs s k
      rw [hdv] at this
      omega
    obtain ⟨hdb1, hdb2⟩ := hdb
    have hwd : IntKind.i64.wrap dv = dv := IntWalk.i64_in _ (by omega)
    have HGL := Lib.hid (show gapsP ws m false = gapL s k k by
      unfold gapsP gapL
      rw [HLN.out, HS.out, Nat.sub_self, List.replicate_zero, List.append_nil, List.take_of_length_le (by rw [gapsGo_len]; exact Nat.le_refl _)]
      rfl)
    have HAT := Lib.hid (fun i => show gapAt s k i = 6 + dv + (if (i : Int) < md then 1 else 0) by unfold gapAt; rw [hdv, hmd])
    have hk0 : ¬ (k : Int) = 0 := by omega
    have hk00 : ¬ k = 0 := by omega
    have hkb : ((k : Int) == 0) = false := by rw [beq_eq_false_iff_ne]; exact hk0
    have hw6 : IntKind.i64.wrap (6 + dv) = 6 + dv := IntWalk.i64_in _ (by omega)
    go_enter Tryz.func221, Tryz.ntmps221
    go_wp2_with (first | (go_at_call 241; refine (HREP.out _ _ (by go_simp)).mono ?_; rintro e w1 ⟨b, rfl, hb, ha, hx⟩; have HA := Lib.hid ha; have HX := Lib.hid (((Ext.refl w).alloc _).trans hx); clear ha hx) | (go_at_call 242; refine (HSL.out _ HX.out).mono ?_; rintro e w2 ⟨rfl, hw2⟩; obtain rfl := hw2.symm))
    rw [World.size_alloc] at hb
    go_loopw [10, 26] (fun _ s26 w' => GpRel w b k s s26 w') (fun _ s26 _ => toM k s26)
    case atStart => exact ⟨0, by omega, rfl, HX.out, HA.out⟩
    case round =>
      obtain ⟨i, hi, rfl, hx, ha⟩ := hrel
      have HXr := Lib.hid hx
      have HAr := Lib.hid ha
      clear hx ha HX HA
      by_cases hlt : i < k
      case neg =>
        obtain rfl : i = k := by omega
        have hni : ¬ ((i : Int) < (i : Int)) := by omega
        go_wp2_with fail
        go_ret
        rw [HGL.out]
        have hlen : (gapL s i i).length = i := by unfold gapL; rw [List.length_append, List.length_take, gapsGo_len, List.length_replicate]; omega
        have := HAr.out.own (by omega) (base := w.heap.size) (by omega) (fun _ => True)
        rw [hlen] at this ⊢
        exact ⟨_, _, rfl, this, HXr.out⟩
      have hI : (i : Int) < (k : Int) := by omega
      have hc6 := HAr.out.cell (gapL_at s k i hlt)
      have hfz := HAr.out.frozen i
      go_wp2_with fail
      by_cases hmdi : (i : Int) < md
      · have HA1 := Lib.hid ((HAr.out.set i (6 + dv)).set i (6 + dv + 1))
        rw [List.set_set, gapL_set s k i hlt _ (by rw [HAT.out, if_pos hmdi])] at HA1
        have HX1 := Lib.hid ((HXr.out.setCell (p := ⟨b, i, none⟩) (by show w.heap.size ≤ b; omega) (.int .i64 (6 + dv))).setCell (p := ⟨b, i, none⟩) (by show w.heap.size ≤ b; omega) (.int .i64 (6 + dv + 1)))
        go_still_tail 9, (by kernel_rfl)
        go_wp2_with fail
        go_roundw
        case rel => exact ⟨i + 1, by omega, by simp, HX1.out.drew, HA1.out⟩
        case measure => simp only [toM]; omega
      · have HA1 := Lib.hid (HAr.out.set i (6 + dv))
        rw [gapL_set s k i hlt _ (by rw [HAT.out, if_neg hmdi]; omega)] at HA1
        have HX1 := Lib.hid (HXr.out.setCell (p := ⟨b, i, none⟩) (by show w.heap.size ≤ b; omega) (.int .i64 (6 + dv)))
        go_still_tail 9, (by kernel_rfl)
        go_wp2_with fail
        go_roundw
        case rel => exact ⟨i + 1, by omega, by simp, HX1.out.drew, HA1.out⟩
        case measure => simp only [toM]; omega
end Go.Proofs.YtdbnddmncbjobaaGreatDoor

/- para.set: walked. -/
namespace Go.Proofs.YtdbnddmncbjobaaGreatDoor
open Go Go.RowKit

def wdsL (ws : List Wd) : List Int := ws.map fun w => wid w.s
/-- The words are words. -/
def WsV (ws : List Wd) : Prop := ∀ w ∈ ws, 1 ≤ wid w.s ∧ 0 ≤ w.nt ∧ w.nt ≤ 100000
theorem WsV.wdr {ws : List Wd} (h : WsV ws) : Wdr (wdsL ws) := fun x hx => by
  obtain ⟨w, hw, rfl⟩ := List.mem_map.1 hx
  exact ⟨(h w hw).1, (wid_bd w.s).2⟩
/-- make of n lines. -/
theorem mkLines (n : Nat) (hn : n ≤ 1000000) (N : Int) (hN : N = (n : Int)) : ∃ Z : Array Value, (∀ W (b : Nat) (w : World) P, W.heap[b]? = some (.cells Z 86 (0, 0)) → w.heap.size ≤ b → kLn.own 86 W w.heap.size P (.slice (some ⟨b, 0, none⟩) n n) (List.replicate n ⟨0, 0, [], []⟩)) ∧
    ∀ W, (Instr.makeSlice 82 (.int .i64 N) (.int .i64 N)).run Tryz.prog W = .ok (.slice (some ⟨W.heap.size, 0, none⟩) n n) (W.alloc (.cells Z 86)) := by
  refine ⟨_, fun W b w P h hb => ?_, fun W => run_mk (P := Tryz.prog) Tryz.underlying82 info86 (by omega) n hn N hN W⟩
  refine own_zero (k := kLn) 86 w P ⟨0, 0, [], []⟩ [.int .i64 0, .int .i64 0, .slice none 0 0, .slice none 0 0] (fun W Q => kLn_rep.2 ⟨none, 0, 0, none, 0, 0, rfl, Nat.le_refl _, Nat.le_refl _, Lay.row_nil _ _ _, Lay.row_nil _ _ _⟩) n hn _ ?_ W b h hb
  exact made_flat #[.int .i64 0, .int .i64 0, .slice none 0 0, .slice none 0 0] (by decide) n
/-- The widths of the first i words are reckoned. -/
def SuW (w : World) (b : Nat) (ws : List Wd) (s24 : Value) (w' : World) : Prop := ∃ i : Nat, i ≤ ws.length ∧ s24 = .int .i64 i ∧ Ext w w' ∧ Arr w' b ((wdsL ws).take i ++ List.replicate (ws.length - i) 0)
theorem take_set (l : List Int) (n i : Nat) (x : Int) (hi : i < n) (h : l[i]? = some x) : (l.take i ++ List.replicate (n - i) 0).set i x = l.take (i + 1) ++ List.replicate (n - (i + 1)) 0 := by
  have hl := (List.getElem?_eq_some_iff.1 h).1
  rw [List.set_append_right _ _ (by rw [List.length_take]; omega), List.length_take, Nat.min_eq_left (by omega), Nat.sub_self, show n - i = (n - (i + 1)) + 1 by omega, List.replicate_succ, List.set_cons_zero, List.take_add_one, h]
  simp
theorem take_setL {γ : Type} (z : γ) (l : List γ) (n i : Nat) (x : γ) (hi : i < n) (h : l[i]? = some x) : (l.take i ++ List.replicate (n - i) z).set i x = l.take (i + 1) ++ List.replicate (n - (i + 1)) z := by
  have hl := (List.getElem?_eq_some_iff.1 h).1
  rw [List.set_append_right _ _ (by rw [List.length_take]; omega), List.length_take, Nat.min_eq_left (by omega), Nat.sub_self, show n - i = (n - (i + 1)) + 1 by omega, List.replicate_succ, List.set_cons_zero, List.take_add_one, h]
  simp
/-- The first i lines are set. -/
def SuL (w3 : World) (w : World) (g : Nat) (ls : List Nat) (LN : List Ln) (s13 s47 : Value) (w' : World) : Prop := ∃ i F : Nat, i ≤ ls.length ∧ s47 = .int .i64 i ∧ s13 = .int .i64 F ∧ F = (ls.take i).sum ∧ Mv g w3 w' ∧ kLn.own 86 w' w.heap.size (fun j => w.heap.size ≤ j) (.slice (some ⟨g, 0, none⟩) ls.length ls.length) (LN.take i ++ List.replicate (ls.length - i) ⟨0, 0, [], []⟩)
/-- The notes of the first j words of a line are met. -/
def SuN (w4 : World) (bl : Nat) (f1 f2 : Int) (gv : Value) (p : List Wd) (s76 : Value) (w' : World) : Prop := ∃ (j : Nat) (nv : Value), j ≤ p.length ∧ s76 = .int .i64 j ∧ Mv bl w4 w' ∧ w'.heap[bl]? = some (.cells #[.int .i64 f1, .int .i64 f2, gv, nv] 86 (0, 0)) ∧ kInt.own 3 w' w4.heap.size (fun _ => True) nv (ntsOf (p.take j))
theorem Mv.mv {g bl : Nat} {w3 w4 w5 : World} (h : Mv g w3 w4) (h2 : Mv bl w4 w5) (hbl : w3.heap.size ≤ bl) : Mv g w3 w5 :=
  ⟨Nat.le_trans h.size h2.size, fun k hk hl => (h2.keep k (by omega) (Nat.lt_of_lt_of_le hl h.size)).trans (h.keep k hk hl), fun w0 h0 hx => h2.ext w0 (Nat.le_trans hx.lt hbl) (h.ext w0 h0 hx)⟩
theorem Mv.app {bl : Nat} {w4 X w9 : World} (h : Mv bl w4 X) (hk : ∀ j, j < w4.heap.size → w9.heap[j]? = X.heap[j]?) (hs : X.heap.size ≤ w9.heap.size) (hb : ∀ B, B ≤ w4.heap.size → Below B X w9) : Mv bl w4 w9 :=
  ⟨Nat.le_trans h.size hs, fun k h1 h2 => (hk k h2).trans (h.keep k h1 h2), fun w0 h0 hx => Below.trans (h.ext w0 h0 hx) (hb _ hx.lt)⟩
theorem own_block {β : Type} {k : Lay β} {e : TypeId} {W : World} {base g n c : Nat} {P : Nat → Prop} {xs : List β} (h : k.own e W base P (.slice (some ⟨g, 0, none⟩) n c) xs) : ∃ cur, W.heap[g]? = some (.cells cur e (0, 0)) ∧ xs.length * k.sz ≤ cur.size := by
  obtain ⟨ds, h1, h2, _⟩ := h
  rcases h1.2 with ⟨h3, _⟩ | ⟨g', cap, cur, h3, h4, h5, h6, h7, h8, _⟩
  · cases h3
  · injection h3 with h3 _ h9
    injection h3 with h3
    injection h3 with h3
    subst h3
    exact ⟨cur, h5, Nat.le_trans (by rw [← h2]; exact Nat.mul_le_mul_right _ h6) (Nat.le_of_eq h8.symm)⟩
theorem frozen_of {W : World} {g : Nat} {cur : Array Value} {e : TypeId} (h : W.heap[g]? = some (.cells cur e (0, 0))) (i : Nat) : W.frozen? ⟨g, i, none⟩ = false := by
  unfold World.frozen?
  simp only [h]
  simp
theorem cell_of {W : World} {g : Nat} {cur : Array Value} {e : TypeId} (h : W.heap[g]? = some (.cells cur e (0, 0))) {i : Nat} {u : Value} (hi : cur[i]? = some u) : W.cell? ⟨g, i, none⟩ = some u := by
  unfold World.cell?
  simp only [h]
  simpa using hi
theorem own_int {e : TypeId} {W : World} {base : Nat} {P Q : Nat → Prop} {v : Value} {xs : List Int} (h : kInt.own e W base P v xs) : kInt.own e W base Q v xs := by
  obtain ⟨ds, h1, h2, h3⟩ := h
  exact ⟨ds, h1, h2, fun i d x hd hx => h3 i d x hd hx⟩
theorem len_le_sum (l : List Nat) (h : ∀ x ∈ l, 1 ≤ x) : l.length ≤ l.sum := by
  induction l with
  | nil => exact Nat.le_refl _
  | cons a r ih =>
    have h1 := h a (by simp)
    have h2 := ih fun x hx => h x (List.mem_cons_of_mem _ hx)
    simp only [List.length_cons, List.sum_cons]; omega
theorem ntsOf_succ (p : List Wd) {j : Nat} {x : Wd} (h : p[j]? = some x) : ntsOf (p.take (j + 1)) = ntsOf (p.take j) ++ (if x.nt ≠ 0 then [x.nt - 1] else []) := by
  unfold ntsOf
  rw [List.take_add_one, h, List.filterMap_append]
  congr 1
  by_cases h0 : x.nt = 0 <;> simp [h0]
theorem ntsOf_len (p : List Wd) : (ntsOf p).length ≤ p.length := List.length_filterMap_le ..
set_option maxHeartbeats 8000000 in
set_option maxRecDepth 100000 in
theorem set_any (P : Nat → Prop) (w : World) (A : Option Addr) (n c : Nat) (ws : List Wd) (first m : Int) (h : kWd.row w P A n ws) (hc : n ≤ c) (hv : WsV ws) (hn : n ≤ 500) (hf0 : 0 ≤ first) (hf : first ≤ 1000000) (hm0 : 500 ≤ m) (hm : m ≤ 2000) (hL : EnvW w) :
    Calls Tryz.prog 185 #[.slice A n c, .int .i64 first, .int .i64 m] w (fun e w' => ∃ A' c', e = .returned (.slice A' (setP ws first m).length c') ∧ (setP ws first m).length ≤ c' ∧ kLn.own 86 w' w.heap.size (fun j => w.heap.size ≤ j) (.slice A' (setP ws first m).length c') (setP ws first m) ∧ Ext w w') := by
  have HL := Lib.hid (Lay.row_len h)
  have HR := Lib.hid h
  have HV := Lib.hid hv
  have HENV := Lib.hid hL
  obtain ⟨Z, hz, hmk⟩ := mkInts n (by omega) (n : Int) rfl
  have hA0 := hz (w.alloc (.cells Z 3)) w.heap.size (heap_alloc_new w _)
  have HA0 := Lib.hid hA0
  have HGW := Lib.hid (fun (S : List UInt8) X (hX : Ext w X) => width_any ⟨S.toArray⟩ X (HENV.out.ext hX))
  clear h hv hL hz hA0
  go_enter Tryz.func185, Tryz.ntmps185
  go_wp2_with fail
  go_loopw [8, 9, 24] (fun _ _ s24 w' => SuW w w.heap.size ws s24 w') (fun _ _ s24 _ => toM n s24)
  case atStart => exact ⟨0, by omega, rfl, (Ext.refl w).alloc _, by have := HA0.out; rw [HL.out] at this; simpa using this⟩
  case round =>
    obtain ⟨i, hi, rfl, hx, ha⟩ := hrel
    have HX := Lib.hid hx
    have HA := Lib.hid ha
    clear hx ha HA0
    by_cases hlt : i < n
    case neg => 
      obtain rfl : n = i := by have := HL.out; omega
      have hni : ¬ ((n : Int) < (n : Int)) := by omega
      have HA2 := Lib.hid (show Arr wr w.heap.size (wdsL ws) by
        have h1 := HA.out
        rw [HL.out, Nat.sub_self, List.replicate_zero, List.append_nil, List.take_of_length_le (by unfold wdsL; rw [List.length_map]; exact Nat.le_refl _)] at h1
        exact h1)
      have HLW := Lib.hid (show (wdsL ws).length = n by unfold wdsL; rw [List.length_map]; exact HL.out.symm)
      have hrw := HA2.out.row (fun _ => True) trivial
      rw [HLW.out] at hrw
      have HEN := Lib.hid (ends_any (fun _ => True) wr _ n n (wdsL ws) m hrw HV.out.wdr hn hm0 hm)
      have hlo := lens_ok (m := m) hm0 HV.out.wdr.wds
      rw [HLW.out] at hlo
      obtain ⟨ls, hls⟩ : ∃ ls, lens (wdsL ws) m = ls := ⟨_, rfl⟩
      simp only [hls] at HEN hlo
      have HLS := Lib.hid hls
      have HLO := Lib.hid hlo
      have hL5 : ls.length ≤ 500 := by have := len_le_sum ls hlo.1; omega
      obtain ⟨ZL, hzl, hmkl⟩ := mkLines ls.length (by omega) (ls.length : Int) rfl
      have HZL := Lib.hid hzl
      clear hrw hls hlo hzl
      go_wp2_with (first | (go_at_call 220; refine HEN.out.mono ?_; rintro e w2 ⟨Ae, ce, rfl, hoe, hx2⟩; have HOE := Lib.hid hoe; have HX2 := Lib.hid hx2; clear hoe hx2))
      obtain ⟨w3, hw3⟩ : ∃ w3, w2.alloc (.cells ZL 86) = w3 := ⟨_, rfl⟩
      rw [hw3]
      obtain ⟨g, hg⟩ : ∃ g, w2.heap.size = g := ⟨_, rfl⟩
      rw [hg]
      have HX3 := Lib.hid (show Ext w2 w3 by rw [← hw3]; exact (Ext.refl w2).alloc _)
      have HXW := Lib.hid (HX.out.trans (HX2.out.trans HX3.out))
      have hwg : w.heap.size < g := by rw [← hg]; exact Nat.lt_of_lt_of_le HA2.out.lt HX2.out.lt
      have hg3 : g < w3.heap.size := by rw [← hw3, World.size_alloc, hg]; omega
      have HO3 := Lib.hid (HZL.out w3 g w (fun j => w.heap.size ≤ j) (by rw [← hw3, ← hg]; exact heap_alloc_new w2 _) (Nat.le_of_lt hwg))
      have HRE := Lib.hid (show kInt.row w3 (fun j => j ≠ g) Ae ls.length (cum 0 ls) by
        obtain ⟨A9, c9, e9, _, h9⟩ := own_rowN (Q := fun j => j ≠ g) HOE.out (fun j _ hj => by omega) (fun j _ hj => by omega)
        injection e9 with e9 e10 e11
        subst e9
        rw [cum_len] at h9
        exact Lay.row_ext h9 HX3.out)
      have HRW := Lib.hid (show kInt.row w3 (fun j => j ≠ g) (some ⟨w.heap.size, 0, none⟩) n (wdsL ws) by
        have h9 := (HA2.out.ext (HX2.out.trans HX3.out)).row (fun j => j ≠ g) (by omega)
        rwa [HLW.out] at h9)
      have HRS := Lib.hid (show kWd.row w3 (fun j => j ≠ g) A n ws from Lay.row_ext (Lay.row_mono HR.out fun j _ hj => by omega) HXW.out)
      have HLN := Lib.hid (show (setP ws first m).length = ls.length by rw [setP_lens]; exact congrArg List.length HLS.out)
      have HAT := Lib.hid (fun i l (h : ls[i]? = some l) => show (setP ws first m)[i]? = some (⟨first + ((ls.take i).sum : Nat), first + (((ls.take i).sum + l : Nat) : Int), gapsP (((ws.drop (ls.take i).sum).take l).map fun w => wid w.s) m (decide (i + 1 = ls.length)), ntsOf ((ws.drop (ls.take i).sum).take l)⟩ : Ln) by
        have h9 : lens (ws.map fun w => wid w.s) m = ls := HLS.out
        unfold setP
        rw [h9]
        exact linesGo_at m ls ws first i l h)
      obtain ⟨LN, hLN⟩ : ∃ LN, setP ws first m = LN := ⟨_, rfl⟩
      rw [hLN] at HLN HAT
      have HLE := Lib.hid hLN
      clear hw3 hLN hmkl hmk hni
      go_loopw [13, 47] (fun s13 s47 w' => SuL w3 w g ls LN s13 s47 w') (fun _ s47 _ => toM ls.length s47)
      case atStart => exact ⟨0, 0, by omega, rfl, rfl, rfl, Mv.refl _ _, by simpa using HO3.out⟩
      case round =>
        obtain ⟨i, F, hi, rfl, rfl, hF, hmv, ho⟩ := hrel
        have HMV := Lib.hid hmv
        have HO := Lib.hid ho
        have HF := Lib.hid hF
        clear hmv ho hF HO3
        by_cases hlt2 : i < ls.length
        case neg =>
          obtain rfl : ls.length = i := by omega
          have hni : ¬ ((ls.length : Int) < (ls.length : Int)) := by omega
          have HO5 := Lib.hid HO.out
          rw [Nat.sub_self, List.replicate_zero, List.append_nil, List.take_of_length_le (by rw [HLN.out]; exact Nat.le_refl _)] at HO5
          go_wp2_with fail
          go_ret
          rw [HLE.out]
          exact ⟨_, _, by rw [HLN.out]; rfl, Nat.le_of_eq HLN.out, by rw [HLN.out]; exact HO5.out, HMV.out.ext w (Nat.le_of_lt hwg) HXW.out⟩
        have hI2 : (i : Int) < (ls.length : Int) := by omega
        obtain ⟨l, hl⟩ : ∃ l, ls[i]? = some l := ⟨_, List.getElem?_eq_getElem hlt2⟩
        have hl1 := HLO.out.1 l (List.mem_of_getElem? hl)
        have hFl := sum_take_le ls hl
        rw [HLO.out.2, ← HF.out] at hFl
        have hce := cum_at ls 0 i l hl
        rw [← HF.out, Int.zero_add] at hce
        obtain ⟨be, oe, rfl, hbe, _, hcell⟩ := int_at (Lay.row_keep HRE.out HMV.out.size fun j hj hl => HMV.out.keep j hj hl) hce
        obtain ⟨T, hT⟩ : ∃ T, F + l = T := ⟨_, rfl⟩
        rw [hT] at hFl hcell
        have hT1 : F < T := by omega
        have hT2 : (F : Int) < (T : Int) := by omega
        have hT3 : (T : Int) ≤ (n : Int) := by omega
        have hTc : (T : Int) ≤ (c : Int) := by omega
        have hn5 : (n : Int) ≤ 500 := by omega
        have HLI := Lib.hid hl
        have HT := Lib.hid hT
        clear hl hce hT
        have hTF : T - F = l := by have := HT.out; omega
        obtain ⟨b0, off, cs0, rfl, hb00, hb0g, _, _⟩ := Lay.row_at (Lay.row_keep HRS.out HMV.out.size fun j hj hl => HMV.out.keep j hj hl) (show ws[F]? = some (ws[F]'(by have := HL.out; omega)) from List.getElem?_eq_getElem _)
        obtain ⟨lb, hlb⟩ : ∃ lb, ((i : Int) == (ls.length : Int) - 1) = lb := ⟨_, rfl⟩
        have HLB := Lib.hid (show lb = decide (i + 1 = ls.length) by
          rw [← hlb]
          by_cases h9 : i + 1 = ls.length
          · rw [decide_eq_true h9, beq_iff_eq]; omega
          · rw [decide_eq_false h9, beq_eq_false_iff_ne]; omega)
        have HGP := Lib.hid (fun X (hX : Mv g w3 X) => gaps_any (fun j => j ≠ g) X (some ⟨w.heap.size, F, none⟩) l l (((wdsL ws).drop F).take l) m lb (by
          have h9 := Lay.row_take (Lay.row_drop (Lay.row_keep HRW.out hX.size fun j hj hl => hX.keep j hj hl) F) l (by omega)
          rwa [show 0 + F * kInt.sz = F by rw [show kInt.sz = 1 from rfl]; omega] at h9) (fun x hx => HV.out.wdr.wds x (List.mem_of_mem_drop (List.mem_of_mem_take hx))) (by omega) (by omega) hm)
        obtain ⟨GP, hGP⟩ : ∃ GP, gapsP (((wdsL ws).drop F).take l) m lb = GP := ⟨_, rfl⟩
        rw [hGP] at HGP
        have HGE := Lib.hid hGP
        have hgw : g < wr.heap.size := Nat.lt_of_lt_of_le hg3 HMV.out.size
        clear hGP
        go_wp2_with (first | (go_at_call 221; refine (HGP.out _ HMV.out).mono ?_; rintro e w5 ⟨Ag, cg, rfl, hog, hx5⟩; have HOG := Lib.hid hog; have HX5 := Lib.hid hx5; clear hog hx5))
        obtain ⟨w4, hw4⟩ : ∃ w4, w5.alloc (.cells #[.int .i64 (first + F), .int .i64 (first + T), .slice Ag GP.length cg, .slice none 0 0] 86) = w4 := ⟨_, rfl⟩
        rw [hw4]
        obtain ⟨bl, hbl⟩ : ∃ bl, w5.heap.size = bl := ⟨_, rfl⟩
        rw [hbl]
        obtain ⟨p, hp⟩ : ∃ p, (ws.drop F).take l = p := ⟨_, rfl⟩
        have hbl4 : bl < w4.heap.size := by rw [← hw4, World.size_alloc, hbl]; omega
        have hwo : wr.heap.size ≤ bl := by rw [← hbl]; exact HX5.out.lt
        have hpl : p.length = l := by rw [← hp, List.length_take, List.length_drop]; have := HL.out; omega
        have HX4 := Lib.hid (show Ext wr w4 by rw [← hw4]; exact HX5.out.alloc _)
        have HB4 := Lib.hid (show w4.heap[bl]? = some (.cells #[.int .i64 (first + F), .int .i64 (first + T), .slice Ag GP.length cg, .slice none 0 0] 86 (0, 0)) by rw [← hw4, ← hbl]; exact heap_alloc_new w5 _)
        have HX54 := Lib.hid (show Ext w5 w4 by rw [← hw4]; exact (Ext.refl w5).alloc _)
        have HM4 := Lib.hid (HMV.out.trans (Mv.of_ext HX4.out))
        have HRS4 := Lib.hid (show kWd.row w4 (fun j => j < bl) (some ⟨b0, off + F * 4, none⟩) l p by
          have h9 := Lay.row_take (Lay.row_drop (Lay.row_keep HRS.out HMV.out.size fun j hj hl => HMV.out.keep j hj hl) F) l (by omega)
          rw [kWd_sz, hp] at h9
          exact Lay.row_ext (Lay.row_mono h9 fun j _ hj => by omega) HX4.out)
        have HP := Lib.hid hp
        clear hw4 hp
        go_loopw [18, 76] (fun _ s76 w' => SuN w4 bl (first + F) (first + T) (.slice Ag GP.length cg) p s76 w') (fun _ s76 _ => toM l s76)
        case atStart => exact ⟨0, _, by omega, rfl, Mv.refl _ _, HB4.out, Lay.own_nil _ _ _ _ _⟩
        case round =>
          obtain ⟨j, nv, hj, rfl, hmv2, hbx, hon⟩ := hrel
          have HM2 := Lib.hid hmv2
          have HBX := Lib.hid hbx
          have HON := Lib.hid hon
          have k0 := cell_of hbx (i := 0) (u := .int .i64 (first + F)) rfl
          have k1 := cell_of hbx (i := 1) (u := .int .i64 (first + T)) rfl
          have k2 := cell_of hbx (i := 2) (u := .slice Ag GP.length cg) rfl
          have k3 := cell_of hbx (i := 3) (u := nv) rfl
          have kf := frozen_of hbx 3
          clear hmv2 hbx hon
          by_cases hjl : j < l
          case neg =>
            obtain rfl : l = j := by omega
            have hnj : ¬ ((l : Int) < (l : Int)) := by omega
            have HM5 := Lib.hid (HM4.out.mv HM2.out (Nat.le_trans HMV.out.size hwo))
            have HOI := Lib.hid (Lay.own_keep HO.out (Nat.le_trans HX4.out.lt HM2.out.size) fun q _ hq => (HM2.out.keep q (by omega) (Nat.lt_of_lt_of_le hq HX4.out.lt)).trans (HX4.out.block q hq))
            obtain ⟨cur, hcur, hcs⟩ := own_block HOI.out
            rw [kLn_sz, List.length_append, List.length_take, List.length_replicate, HLN.out] at hcs
            have HCU := Lib.hid hcur
            obtain ⟨v0, g0⟩ : ∃ v, wr.cell? ⟨g, i * 4, none⟩ = some v := ⟨_, cell_of hcur (Array.getElem?_eq_getElem (by omega))⟩
            obtain ⟨v1, g1⟩ : ∃ v, wr.cell? ⟨g, i * 4 + 1, none⟩ = some v := ⟨_, cell_of hcur (Array.getElem?_eq_getElem (by omega))⟩
            obtain ⟨v2, g2⟩ : ∃ v, wr.cell? ⟨g, i * 4 + 2, none⟩ = some v := ⟨_, cell_of hcur (Array.getElem?_eq_getElem (by omega))⟩
            obtain ⟨v3, g3⟩ : ∃ v, wr.cell? ⟨g, i * 4 + 3, none⟩ = some v := ⟨_, cell_of hcur (Array.getElem?_eq_getElem (by omega))⟩
            have q0 := frozen_of hcur (i * 4)
            have q1 := frozen_of hcur (i * 4 + 1)
            have q2 := frozen_of hcur (i * 4 + 2)
            have q3 := frozen_of hcur (i * 4 + 3)
            obtain ⟨An, cn, rfl, hcn, hrn⟩ := own_rowN (P := fun q => g < q) (Q := fun q => g < q) (own_int HON.out) (fun q hq _ => hq) (fun q hq _ => by omega)
            have HRN := Lib.hid hrn
            have HXL := Lib.hid (show LN[i]? = some (⟨first + F, first + T, GP, ntsOf (p.take l)⟩ : Ln) by
              have h9 := HAT.out i l HLI.out
              have h8 := HGE.out
              unfold wdsL at h8
              rw [← List.map_drop, ← List.map_take, HP.out, HLB.out] at h8
              rw [← HF.out, HT.out, HP.out, h8] at h9
              rw [h9, List.take_of_length_le (by omega)])
            have HRG := Lib.hid (show kInt.row wr (fun q => g < q) Ag GP.length GP by
              obtain ⟨A9, c9, e9, _, h9⟩ := own_rowN (P := fun q => g < q ∧ q < bl) (Q := fun q => g < q ∧ q < bl) (own_int HOG.out) (fun q hq _ => hq) (fun q hq hq2 => ⟨by omega, by omega⟩)
              injection e9 with e9 e10 e11
              subst e9
              have h7 := Lay.row_ext h9 (show Ext w5 w4 from HX54.out)
              exact Lay.row_mono (Lay.row_keep h7 HM2.out.size fun q hq hl => HM2.out.keep q (by omega) hl) fun q hq _ => hq.1)
            have hgc : GP.length ≤ cg := by
              obtain ⟨A9, c9, e9, h8, _⟩ := Lay.own_row HOG.out
              injection e9 with _ _ e11
              omega
            clear hcur hcs hrn
            go_wp2_with fail
            go_roundw
            case rel =>
              refine ⟨i + 1, T, by omega, by simp, rfl, by rw [sum_take_succ ls HLI.out, ← HF.out, HT.out], (((HM5.out.trans (Mv.set _)).trans (Mv.set _)).trans (Mv.set _)).trans (Mv.set _), ?_⟩
              have h9 := Lay.own_put4 kLn_sz HOI.out (i := i) (by rw [List.length_append, List.length_take, List.length_replicate, HLN.out]; omega) (x := ⟨first + F, first + T, GP, ntsOf (p.take l)⟩) (kLn_rep.2 ⟨Ag, _, cg, An, _, cn, rfl, hgc, hcn, Lay.row_mono HRG.out fun q hq _ => ⟨by omega, by simp [Value.ownBlock]; omega⟩, Lay.row_mono HRN.out fun q hq _ => ⟨by omega, by simp [Value.ownBlock]; omega⟩⟩)
              rwa [take_setL _ _ _ _ _ (by omega) HXL.out] at h9
            case measure => simp only [toM]; omega
          have hJ : (j : Int) < (l : Int) := by omega
          obtain ⟨x, hxj⟩ : ∃ x, p[j]? = some x := ⟨_, List.getElem?_eq_getElem (by omega)⟩
          obtain ⟨b9, o9, cs9, e9, hb9, hb9l, hrep, hcell9⟩ := Lay.row_at (Lay.row_keep HRS4.out HM2.out.size fun q hq hl => HM2.out.keep q (by omega) hl) hxj
          injection e9 with e9
          injection e9 with e9 e10
          subst e9 e10
          rw [kWd_rep] at hrep
          subst hrep
          have c0 := hcell9 0 _ rfl
          have c1 := hcell9 1 _ rfl
          have c2 := hcell9 2 _ rfl
          have c3' := hcell9 3 _ rfl
          rw [kWd_sz] at c0 c1 c2 c3'
          rw [Nat.add_zero] at c0
          have hxv := (HV.out x (List.mem_of_mem_drop (List.mem_of_mem_take (by rw [HP.out]; exact List.mem_of_getElem? hxj)))).2
          have HNS := Lib.hid (ntsOf_succ p hxj)
          have hnl := ntsOf_len (p.take j)
          rw [List.length_take] at hnl
          have hblr : bl < wr.heap.size := Nat.lt_of_lt_of_le hbl4 HM2.out.size
          obtain ⟨x1, x2, x3, x4⟩ := x
          clear hcell9 hxj
          simp only at c0 c1 c2 c3' hxv HNS
          by_cases hx4 : x4 = 0
          · subst hx4
            go_wp2_with fail
            go_roundw
            case rel =>
              refine ⟨j + 1, nv, by omega, by simp, HM2.out.trans (Mv.of_ext ((Ext.refl _).alloc _)), (Below.heap_alloc _ _ _ hblr).trans HBX.out, ?_⟩
              rw [HNS.out, if_neg (by simp), List.append_nil]
              exact Lay.own_ext HON.out ((Ext.refl _).alloc _)
            case measure => simp only [toM]; omega
          · rw [if_pos hx4] at HNS
            obtain ⟨X, hX⟩ : ∃ X, wr.alloc (.cells #[.string ⟨x1.toArray⟩, .string ⟨x2.toArray⟩, .int .i64 x3, .int .i64 x4] 60) = X := ⟨_, rfl⟩
            have hxX : Ext wr X := by rw [← hX]; exact (Ext.refl _).alloc _
            have hMX := HM2.out.trans (Mv.of_ext hxX)
            have hlto := Lay.own_lt HON.out
            obtain ⟨A9, c9, w9, hrun, ho9, hb9', hk9, hs9, hn9⟩ := own_app1 (k := kInt) (Pr := Tryz.prog) (t := 22) Tryz.underlying22 info3 rfl (by decide) (by omega) (Lay.own_ext HON.out hxX) hMX.size (cs := #[.int .i64 (x4 - 1)]) (T := 3) (x := x4 - 1) rfl 1 (by omega)
            have hM9 : Mv bl w4 w9 := hMX.app (fun q hq => hk9 q (Nat.lt_of_lt_of_le hq hMX.size) fun e => by have := (hlto q e).1; omega) hs9 fun B hB => hb9' B hB
            have hbX : X.heap[bl]? = some (.cells #[.int .i64 (first + F), .int .i64 (first + T), .slice Ag GP.length cg, nv] 86 (0, 0)) := (hxX.block bl hblr).trans HBX.out
            have hb99 : w9.heap[bl]? = some (.cells #[.int .i64 (first + F), .int .i64 (first + T), .slice Ag GP.length cg, nv] 86 (0, 0)) := (hk9 bl (lt_of_block hbX) fun e => by have := (hlto bl e).1; omega).trans hbX
            have hc93 := cell_of hb99 (i := 3) (u := nv) rfl
            have hf93 := frozen_of hb99 3
            have hown9 : kInt.own 3 (w9.setCell ⟨bl, 3, none⟩ (.slice A9 ((ntsOf (p.take j)).length + 1) c9)) w4.heap.size (fun _ => True) (.slice A9 ((ntsOf (p.take j)).length + 1) c9) (ntsOf (p.take (j + 1))) := by
              rw [HNS.out]
              exact own_int (P := fun _ => False) (Lay.own_keep (own_int ho9) (by simp) fun q hq hl => by
                rcases hq with hq | hq
                · exact hq.elim
                · have := (Lay.own_lt ho9 q hq).1
                  exact heap_setCell_other _ ⟨bl, 3, none⟩ q _ (by show q ≠ bl; omega))
            have hbl9 : (w9.setCell ⟨bl, 3, none⟩ (.slice A9 ((ntsOf (p.take j)).length + 1) c9)).heap[bl]? = some (.cells #[.int .i64 (first + F), .int .i64 (first + T), .slice Ag GP.length cg, .slice A9 ((ntsOf (p.take j)).length + 1) c9] 86 (0, 0)) := by
              rw [heap_setCell_same _ bl 3 _ 86 _ hb99]
              rfl
            have HREL := Lib.hid (show SuN w4 bl (first + F) (first + T) (.slice Ag GP.length cg) p (.int .i64 ((j : Int) + 1)) (w9.setCell ⟨bl, 3, none⟩ (.slice A9 ((ntsOf (p.take j)).length + 1) c9)) from ⟨j + 1, _, by omega, by simp, hM9.trans (Mv.set _), hbl9, hown9⟩)
            have HRUN := Lib.hid hrun
            clear hlto ho9 hb9' hk9 hn9 hM9 hbX hb99 hown9 hbl9 hrun
            rw [← hX, World.size_alloc] at HRUN
            clear hX hxX hMX hs9
            go_wp2_with (first | (at_builtin; refine wpList_append_run (s := .tmp 84) (x := .tmp 88) HRUN.out rfl rfl rfl rfl rfl ?_))
            go_roundw
            case rel => exact HREL.out
            case measure => simp only [toM]; omega
    have hI : (i : Int) < (n : Int) := by omega
    obtain ⟨x, hxi⟩ : ∃ x, ws[i]? = some x := ⟨_, List.getElem?_eq_getElem (by have := HL.out; omega)⟩
    obtain ⟨b0, off, cs, rfl, hb0, _, hrep, hcell⟩ := Lay.row_at (Lay.row_ext HR.out HX.out) hxi
    rw [kWd_rep] at hrep
    subst hrep
    have c0 := hcell 0 _ rfl
    have c1 := hcell 1 _ rfl
    have c2 := hcell 2 _ rfl
    have c3' := hcell 3 _ rfl
    rw [kWd_sz] at c0 c1 c2 c3'
    rw [Nat.add_zero] at c0
    have hwb := wid_bd x.s
    obtain ⟨v, hvx⟩ : ∃ v, wid x.s = v := ⟨_, rfl⟩
    have HWX := Lib.hid (fun X (hX : Ext w X) => HGW.out x.s X hX)
    simp only [hvx] at HWX
    have hfz := HA.out.frozen i
    have hbw : w.heap.size < wr.heap.size := HA.out.lt
    have hce := HA.out.cell (i := i) (x := 0) (by rw [List.getElem?_append_right (by rw [List.length_take]; omega), List.getElem?_replicate, List.length_take, if_pos (by have := HL.out; unfold wdsL; rw [List.length_map]; omega)])
    have HXI := Lib.hid hxi
    have HVX := Lib.hid hvx
    obtain ⟨x1, x2, x3, x4⟩ := x
    clear hcell hxi hvx
    simp only at c0 c1 c2 c3' HWX HVX
    go_wp2_with (first | (go_at_call 219; refine (HWX.out _ (HX.out.alloc _)).mono ?_; rintro e w5 ⟨rfl, hw5⟩; obtain rfl := hw5.symm))
    go_roundw
    case rel =>
      refine ⟨i + 1, by have := HL.out; omega, by simp, (HX.out.setCell (p := ⟨w.heap.size, i, none⟩) (Nat.le_refl _) _).alloc _, Arr.alloc ?_ _⟩
      have h1 := HA.out.set i v
      rwa [take_set _ _ _ _ (by have := HL.out; omega) (by unfold wdsL; rw [List.getElem?_map, HXI.out]; exact congrArg some HVX.out)] at h1
    case measure => simp only [toM]; omega
end Go.Proofs.YtdbnddmncbjobaaGreatDoor

/- What a text is that has been checked. -/
namespace Go.Proofs.YtdbnddmncbjobaaGreatDoor

theorem chkWs_val (b : Bool) (nn : Int) : ∀ (p : List Wd) (k k' : Int), chkWs b nn p k = .inr k' → ∀ w ∈ p, validW w.s = true := by
  intro p
  induction p with
  | nil => intro k k' _ w hw; simp at hw
  | cons a r ih =>
    intro k k' h w hw
    simp only [chkWs] at h
    split at h
    · cases h
    · next h1 =>
      simp only [Bool.or_eq_true, Bool.not_eq_true', not_or, Bool.not_eq_false] at h1
      split at h
      · cases h
      · rcases List.mem_cons.1 hw with rfl | hw
        · exact h1.1
        · split at h
          · split at h
            · cases h
            · exact ih _ _ h w hw
          · exact ih _ _ h w hw
theorem chkPs_val (nn : Int) : ∀ (ps : List (List Wd)) (b : Nat) (k k' : Int), chkPs nn b ps k = .inr k' → ∀ p ∈ ps, ∀ w ∈ p, validW w.s = true := by
  intro ps
  induction ps with
  | nil => intro b k k' _ p hp; simp at hp
  | cons a r ih =>
    intro b k k' h p hp
    simp only [chkPs] at h
    split at h
    · cases h
    · next k1 hk =>
      rcases List.mem_cons.1 hp with rfl | hp
      · exact chkWs_val _ _ _ _ _ hk
      · exact ih _ _ _ h p hp
/-- A text that has been checked. -/
structure ChkT (t : Tx) : Prop where
  np : t.paras.length ≤ 100
  nn : t.notes.length ≤ 100
  len : ∀ p ∈ t.paras ++ t.notes, 1 ≤ p.length ∧ p.length ≤ 500
  ok : ∀ p ∈ t.paras ++ t.notes, ∀ w ∈ p, validW w.s = true
theorem chkT_val {t : Tx} (h : chkT t = 0) : ChkT t := by
  unfold chkT at h
  split at h
  · cases h
  · next h1 =>
    split at h
    · cases h
    · next h2 =>
      split at h
      · next e he =>
        exfalso
        subst h
        have : ∀ (ps : List (List Wd)) (b : Nat) (k : Int), chkPs t.notes.length b ps k ≠ .inl 0 := by
          intro ps
          induction ps with
          | nil => intro b k h; simp [chkPs] at h
          | cons a r ih =>
            intro b k h
            simp only [chkPs] at h
            split at h
            · next e' he' =>
              injection h with h
              subst h
              have : ∀ (p : List Wd) (bb : Bool) (k : Int), chkWs bb t.notes.length p k ≠ .inl 0 := by
                intro p
                induction p with
                | nil => intro bb k h; simp [chkWs] at h
                | cons w r ih2 =>
                  intro bb k h
                  simp only [chkWs] at h
                  split at h
                  · injection h with h; cases h
                  · split at h
                    · injection h with h; cases h
                    · split at h
                      · split at h
                        · injection h with h; cases h
                        · exact ih2 _ _ h
                      · exact ih2 _ _ h
              exact this _ _ _ he'
            · exact ih _ _ h
        exact this _ _ _ he
      · next k hk =>
        simp only [not_or] at h1
        have h3 : ∀ p ∈ t.paras ++ t.notes, ¬ (500 < p.length) := fun p hp hc => h1.2.2 (List.any_eq_true.2 ⟨p, hp, decide_eq_true hc⟩)
        have h4 : ∀ p ∈ t.paras ++ t.notes, ¬ (p.length = 0) := fun p hp hc => h2 (List.any_eq_true.2 ⟨p, hp, decide_eq_true hc⟩)
        exact ⟨by omega, by omega, fun p hp => by have := h3 p hp; have := h4 p hp; omega, fun p hp => chkPs_val _ _ _ _ _ hk p hp⟩
end Go.Proofs.YtdbnddmncbjobaaGreatDoor

/- glyph.Check at texts that are right: walked. -/
namespace Go.Proofs.YtdbnddmncbjobaaGreatDoor
open Go Go.RowKit

theorem dwl {γ : Type} (xs : List γ) {i : Nat} {p : γ} (h : xs[i]? = some p) : xs.drop i = p :: xs.drop (i + 1) := by
  have hl := (List.getElem?_eq_some_iff.1 h).1
  rw [List.drop_eq_getElem_cons hl]
  congr 1
  rw [List.getElem?_eq_getElem hl] at h
  exact Option.some.inj h
/-- The outer loop: i parts are right, k notes were met. -/
def ChO (W : World) (t : Tx) (s4 s33 : Value) (w' : World) : Prop := ∃ (i k : Nat), i ≤ (t.paras ++ t.notes).length ∧ k ≤ 500 * i ∧ s33 = .int .i64 i ∧ s4 = .int .i64 k ∧ Ext W w' ∧
  chkPs t.notes.length (t.paras.length - i) ((t.paras ++ t.notes).drop i) k = .inr t.notes.length
/-- The inner loop: j words are right, k notes were met. -/
def ChI (W : World) (b : Bool) (nn : Int) (p : List Wd) (k0 : Nat) (k1 : Int) (s4 s40 : Value) (w' : World) : Prop := ∃ (j k : Nat), j ≤ p.length ∧ k ≤ k0 + j ∧ s40 = .int .i64 j ∧ s4 = .int .i64 k ∧ Ext W w' ∧
  chkWs b nn (p.drop j) k = .inr k1
theorem chkPs_ne0 (nn : Int) : ∀ (ps : List (List Wd)) (b : Nat) (k : Int), chkPs nn b ps k ≠ .inl 0 := by
  intro ps
  induction ps with
  | nil => intro b k h; simp [chkPs] at h
  | cons a r ih =>
    intro b k h
    simp only [chkPs] at h
    split at h
    · next e' he' =>
      injection h with h
      subst h
      have : ∀ (p : List Wd) (bb : Bool) (k : Int), chkWs bb nn p k ≠ .inl 0 := by
        intro p
        induction p with
        | nil => intro bb k h; simp [chkWs] at h
        | cons w r ih2 =>
          intro bb k h
          simp only [chkWs] at h
          split at h
          · injection h with h; cases h
          · split at h
            · injection h with h; cases h
            · split at h
              · split at h
                · injection h with h; cases h
                · exact ih2 _ _ h
              · exact ih2 _ _ h
      exact this _ _ _ he'
    · exact ih _ _ h
theorem chkPs_inv {t : Tx} (h : chkT t = 0) : chkPs t.notes.length t.paras.length (t.paras ++ t.notes) 0 = .inr t.notes.length := by
  have hc := chkT_val h
  unfold chkT at h
  rw [if_neg, if_neg] at h
  · split at h
    · next e he =>
      exfalso
      subst h
      exact chkPs_ne0 _ _ _ _ he
    · next k hk =>
      rw [hk]
      split at h
      · cases h
      · next hn => rw [Decidable.of_not_not hn]
  · intro hx
    obtain ⟨p, hp, hd⟩ := List.any_eq_true.1 hx
    have := hc.len p hp
    have := of_decide_eq_true hd
    omega
  · rintro (hx | hx | hx)
    · have := hc.np; omega
    · have := hc.nn; omega
    · obtain ⟨p, hp, hd⟩ := List.any_eq_true.1 hx
      have := hc.len p hp
      have := of_decide_eq_true hd
      omega
set_option maxHeartbeats 4000000 in
set_option maxRecDepth 100000 in
theorem check_any (P : Nat → Prop) (w : World) (t : Tx) (A A' : Option Addr) (n n' c c' : Nat) (h1 : kWs.row w P A n t.paras) (h2 : kWs.row w P A' n' t.notes) (hc : chkT t = 0) (hL : EnvW w) :
    Calls Tryz.prog 184 #[.agg #[.slice A n c, .slice A' n' c']] w (fun e w' => e = .returned (.int .i64 0) ∧ Ext w w') := by
  have hv := chkT_val hc
  have HE1 := Lib.hid (Lay.row_len h1)
  have HE2 := Lib.hid (Lay.row_len h2)
  have a1' : ¬ (100 : Int) < (n : Int) := by have := hv.np; have := HE1.out; omega
  have a2' : ¬ (100 : Int) < (n' : Int) := by have := hv.nn; have := HE2.out; omega
  have HC := Lib.hid (fun X (hx : Ext w X) g hg g0 g1 => cat72 kWs rfl P X g A A' n n' c c' _ _ (Lay.row_ext h1 hx) (Lay.row_ext h2 hx) (by omega) (by omega) hg g0 g1)
  have HLW := Lib.hid hL
  have hlen : (t.paras ++ t.notes).length ≤ 200 := by have := hv.np; have := hv.nn; rw [List.length_append]; omega
  have HQ1 := Lib.hid (show (t.paras ++ t.notes).any (fun p => decide (500 < p.length)) = false by
    rw [List.any_eq_false]; intro p hp hd; have := hv.len p hp; have := of_decide_eq_true hd; omega)
  have HQ2 := Lib.hid (show (t.paras ++ t.notes).any (fun p => decide (p.length = 0)) = false by
    rw [List.any_eq_false]; intro p hp hd; have := hv.len p hp; have := of_decide_eq_true hd; omega)
  have HV := Lib.hid hv
  have HP := Lib.hid (chkPs_inv hc)
  clear h1 h2 hL hc hv
  go_enter Tryz.func184, Tryz.ntmps184
  go_wp2_with (first | (go_at_call 72; refine (HC.out _ (((Ext.refl w).alloc _).alloc _) _ (by simp) (by go_simp) (by go_simp)).mono ?_; rintro e w1 ⟨A3, c3, rfl, ho, hx⟩; have hc0 := (hx.cells.1 w.heap.size 0 (by simp; omega)).trans (by go_simp : _ = some (.slice A n c)); have hc1 := (hx.cells.1 w.heap.size 1 (by simp; omega)).trans (by go_simp : _ = some (.slice A' n' c')); have HO := Lib.hid ho; have HX := Lib.hid ((((Ext.refl w).alloc _).alloc _).trans hx); clear ho hx))
  obtain ⟨Ar, cr, er, _, hrow⟩ := Lay.own_row HO.out
  injection er with er1 er2 er3
  subst er1 er3
  rw [List.length_append] at hlen hrow
  have HRW := Lib.hid hrow
  refine (parts_many _ w1 A3 _ c3 _ hrow (by omega)).mono ?_
  rintro e w2 ⟨rfl, hx2⟩
  clear hrow er2
  have hc0' := (hx2.cells.1 w.heap.size 0 (World.block_lt_of_cell? w1 _ hc0)).trans hc0
  have hc1' := (hx2.cells.1 w.heap.size 1 (World.block_lt_of_cell? w1 _ hc0)).trans hc1
  have HX2 := Lib.hid (HX.out.trans hx2)
  have HRW2 := Lib.hid (Lay.row_ext HRW.out hx2)
  clear hc0 hc1 hx2
  rw [HQ1.out]
  go_wp2_with fail
  refine (parts_none _ w2 A3 _ c3 _ HRW2.out (by omega)).mono ?_
  rintro e w3 ⟨rfl, hx3⟩
  have hc0 := (hx3.cells.1 w.heap.size 0 (World.block_lt_of_cell? w2 _ hc0')).trans hc0'
  have hc1 := (hx3.cells.1 w.heap.size 1 (World.block_lt_of_cell? w2 _ hc0')).trans hc1'
  have HX3 := Lib.hid (HX2.out.trans hx3)
  have HRW3 := Lib.hid (Lay.row_ext HRW2.out hx3)
  clear hc0' hc1' hx3
  rw [HQ2.out]
  go_wp2_with fail
  go_loopw [4, 33] (fun s4 s33 w' => ChO w3 t s4 s33 w') (fun _ s33 _ => toM (t.paras.length + t.notes.length) s33)
  case atStart => exact ⟨0, 0, by omega, by omega, rfl, rfl, Ext.refl _, HP.out⟩
  case round =>
    obtain ⟨i, k, hi, hk, rfl, rfl, hx, heq⟩ := hrel
    have hc0r := (hx.cells.1 w.heap.size 0 (World.block_lt_of_cell? w3 _ hc0)).trans hc0
    have hc1r := (hx.cells.1 w.heap.size 1 (World.block_lt_of_cell? w3 _ hc0)).trans hc1
    have HXR := Lib.hid (HX3.out.trans hx)
    have HRWr := Lib.hid (Lay.row_ext HRW3.out hx)
    have HX3r := Lib.hid hx
    have HEQ := Lib.hid heq
    clear hx heq hc0 hc1
    rw [List.length_append] at hi
    by_cases hlt : i < t.paras.length + t.notes.length
    case neg =>
      have hni : ¬ ((i : Int) < (t.paras.length : Int) + (t.notes.length : Int)) := by omega
      obtain rfl : k = n' := by
        have h := HEQ.out
        rw [List.drop_of_length_le (by rw [List.length_append]; omega), chkPs] at h
        injection h with h
        have := HE2.out
        omega
      go_wp2_with fail
      go_ret
      exact ⟨rfl, HXR.out⟩
    have hI : (i : Int) < (t.paras.length : Int) + (t.notes.length : Int) := by omega
    obtain ⟨p, hp⟩ : ∃ p, (t.paras ++ t.notes)[i]? = some p := ⟨_, List.getElem?_eq_getElem (by rw [List.length_append]; omega)⟩
    obtain ⟨k1, hw1, hw2⟩ : ∃ k1, chkWs (decide (0 < t.paras.length - i)) t.notes.length p k = .inr k1 ∧ chkPs t.notes.length (t.paras.length - (i + 1)) ((t.paras ++ t.notes).drop (i + 1)) k1 = .inr t.notes.length := by
      have h := HEQ.out
      rw [dwl _ hp] at h
      simp only [chkPs] at h
      split at h
      · cases h
      · next k1 hk1 => exact ⟨k1, hk1, by rw [Nat.sub_sub] at h; exact h⟩
    have hpl := (HV.out.len p (List.mem_of_getElem? hp)).2
    obtain ⟨gb, off, cs, rfl, hgb, _, hrep, hcell⟩ := Lay.row_at HRWr.out hp
    obtain ⟨Ap, cp, rfl, _, hrowp⟩ := kWs_rep.1 hrep
    have hcl : wr.cell? ⟨gb, off + i, none⟩ = some (.slice Ap p.length cp) := by
      have := hcell 0 _ rfl
      rwa [kWs_sz, Nat.mul_one, Nat.add_zero] at this
    have HRP := Lib.hid hrowp
    have HW1 := Lib.hid hw1
    have HW2 := Lib.hid hw2
    have HB := Lib.hid (show (0 < t.paras.length - i) = (i < n) from propext (by have := HE1.out; omega))
    clear hp hw1 hw2 hcell hrep hrowp
    go_wp2_with fail
    go_loopw [4, 40] (fun s4 s40 w' => ChI wr (decide (i < n)) t.notes.length p k k1 s4 s40 w') (fun _ s40 _ => toM p.length s40)
    case atStart => exact ⟨0, k, by omega, by omega, rfl, rfl, Ext.refl _, by have := HW1.out; simp only [HB.out] at this; exact this⟩
    case round =>
      obtain ⟨j, k', hj, hk', rfl, rfl, hxi, heqi⟩ := hrel
      have hc0i := (hxi.cells.1 w.heap.size 0 (World.block_lt_of_cell? _ _ hc0r)).trans hc0r
      have hc1i := (hxi.cells.1 w.heap.size 1 (World.block_lt_of_cell? _ _ hc0r)).trans hc1r
      have hbi := World.block_lt_of_cell? _ _ hc0i
      have HXI := Lib.hid (HXR.out.trans hxi)
      have HXJ := Lib.hid hxi
      have HX3j := Lib.hid (HX3r.out.trans hxi)
      have HRPi := Lib.hid (Lay.row_ext HRP.out hxi)
      have HEQi := Lib.hid heqi
      clear hc0r hc1r hcl hxi heqi
      by_cases hjl : j < p.length
      case neg =>
        obtain rfl : j = p.length := by omega
        have hni : ¬ ((p.length : Int) < (p.length : Int)) := by omega
        have HK1 := Lib.hid (show k1 = (k' : Int) by
          have h := HEQi.out
          rw [List.drop_length, chkWs] at h
          injection h with h; exact h.symm)
        go_wp2_with fail
        go_roundw
        case rel =>
          refine ⟨i + 1, k', by rw [List.length_append]; omega, by omega, by simp, rfl, HX3j.out, ?_⟩
          have := HW2.out
          rwa [HK1.out] at this
        case measure => simp only [toM]; omega
      have hJ : (j : Int) < (p.length : Int) := by omega
      obtain ⟨x, hx⟩ : ∃ x, p[j]? = some x := ⟨_, List.getElem?_eq_getElem hjl⟩
      obtain ⟨v1, v2, v3, v4⟩ := chkWs_inv (by have h := HEQi.out; rw [dwl _ hx] at h; exact h)
      obtain ⟨g2, o2, cs, rfl, hg2, _, hrep, hcell⟩ := Lay.row_at HRPi.out hx
      rw [kWd_rep] at hrep
      subst hrep
      have c0 := hcell 0 _ rfl
      have c1 := hcell 1 _ rfl
      have c2 := hcell 2 _ rfl
      have c3' := hcell 3 _ rfl
      rw [kWd_sz] at c0 c1 c2 c3'
      rw [Nat.add_zero] at c0
      have HV1 := Lib.hid v1
      have HVA := Lib.hid (fun (S : List UInt8) X (hX : Ext w X) => gvalid_any ⟨S.toArray⟩ X (HLW.out.ext hX))
      clear hcell hx v1
      obtain ⟨x1, x2, x3, x4⟩ := x
      simp only at v2 v3 v4 c0 c1 c2 c3'
      have HVX := HVA.out x1
      have hv1 := HV1.out
      simp only at hv1
      rw [hv1] at HVX
      have HVYtdbnddmncbjobaaGreatDoor := Lib.hid HVX
      clear HVX hv1
      rcases v2 with rfl | v2
      · rcases v3 with rfl | rfl
        · rcases v4 with ⟨e4, e5⟩ | ⟨e4, e5, e6, e7, e8⟩
          · subst e4
            have HEN := Lib.hid e5
            clear e5
            go_wp2_with (first | (go_at_call 218; refine (HVYtdbnddmncbjobaaGreatDoor.out _ (HXI.out.alloc _)).mono ?_; rintro e w5 ⟨rfl, rfl⟩))
            go_roundw
            case rel => exact ⟨j + 1, k', by omega, by omega, by simp, rfl, HXJ.out.alloc _, HEN.out⟩
            case measure => simp only [toM]; omega
          · have hin := of_decide_eq_true e5
            have h1' : ¬ ((n : Int) ≤ (i : Int)) := by omega
            have h2' : ¬ ((n' : Int) < (k' : Int) + 1) := by have := HE2.out; omega
            have h3' : ¬ ((k' : Int) + 1 = 0) := by omega
            have HEN := Lib.hid e8
            subst e6
            clear e8 e7 e5 hin e4
            go_wp2_with (first | (go_at_call 218; refine (HVYtdbnddmncbjobaaGreatDoor.out _ (HXI.out.alloc _)).mono ?_; rintro e w5 ⟨rfl, rfl⟩))
            go_roundw
            case rel => exact ⟨j + 1, k' + 1, by omega, by omega, by simp, by simp, HXJ.out.alloc _, HEN.out⟩
            case measure => simp only [toM]; omega
        · rcases v4 with ⟨e4, e5⟩ | ⟨e4, e5, e6, e7, e8⟩
          · subst e4
            have HEN := Lib.hid e5
            clear e5
            go_wp2_with (first | (go_at_call 218; refine (HVYtdbnddmncbjobaaGreatDoor.out _ (HXI.out.alloc _)).mono ?_; rintro e w5 ⟨rfl, rfl⟩))
            go_roundw
            case rel => exact ⟨j + 1, k', by omega, by omega, by simp, rfl, HXJ.out.alloc _, HEN.out⟩
            case measure => simp only [toM]; omega
          · have hin := of_decide_eq_true e5
            have h1' : ¬ ((n : Int) ≤ (i : Int)) := by omega
            have h2' : ¬ ((n' : Int) < (k' : Int) + 1) := by have := HE2.out; omega
            have h3' : ¬ ((k' : Int) + 1 = 0) := by omega
            have HEN := Lib.hid e8
            subst e6
            clear e8 e7 e5 hin e4
            go_wp2_with (first | (go_at_call 218; refine (HVYtdbnddmncbjobaaGreatDoor.out _ (HXI.out.alloc _)).mono ?_; rintro e w5 ⟨rfl, rfl⟩))
            go_roundw
            case rel => exact ⟨j + 1, k' + 1, by omega, by omega, by simp, by simp, HXJ.out.alloc _, HEN.out⟩
            case measure => simp only [toM]; omega
      · by_cases hx2 : x2 = []
        · subst hx2
          exact absurd v2 (by decide)
        have HVY := HVA.out x2
        simp only [v2] at HVY
        have HVYY := Lib.hid HVY
        clear HVY v2
        rcases v3 with rfl | rfl
        · rcases v4 with ⟨e4, e5⟩ | ⟨e4, e5, e6, e7, e8⟩
          · subst e4
            have HEN := Lib.hid e5
            clear e5
            go_wp2_with (first | (go_at_call 218; first | refine (HVYtdbnddmncbjobaaGreatDoor.out _ (HXI.out.alloc _)).mono ?_ | refine (HVYY.out _ (HXI.out.alloc _)).mono ?_; rintro e w5 ⟨rfl, rfl⟩))
            go_roundw
            case rel => exact ⟨j + 1, k', by omega, by omega, by simp, rfl, HXJ.out.alloc _, HEN.out⟩
            case measure => simp only [toM]; omega
          · have hin := of_decide_eq_true e5
            have h1' : ¬ ((n : Int) ≤ (i : Int)) := by omega
            have h2' : ¬ ((n' : Int) < (k' : Int) + 1) := by have := HE2.out; omega
            have h3' : ¬ ((k' : Int) + 1 = 0) := by omega
            have HEN := Lib.hid e8
            subst e6
            clear e8 e7 e5 hin e4
            go_wp2_with (first | (go_at_call 218; first | refine (HVYtdbnddmncbjobaaGreatDoor.out _ (HXI.out.alloc _)).mono ?_ | refine (HVYY.out _ (HXI.out.alloc _)).mono ?_; rintro e w5 ⟨rfl, rfl⟩))
            go_roundw
            case rel => exact ⟨j + 1, k' + 1, by omega, by omega, by simp, by simp, HXJ.out.alloc _, HEN.out⟩
            case measure => simp only [toM]; omega
        · rcases v4 with ⟨e4, e5⟩ | ⟨e4, e5, e6, e7, e8⟩
          · subst e4
            have HEN := Lib.hid e5
            clear e5
            go_wp2_with (first | (go_at_call 218; first | refine (HVYtdbnddmncbjobaaGreatDoor.out _ (HXI.out.alloc _)).mono ?_ | refine (HVYY.out _ (HXI.out.alloc _)).mono ?_; rintro e w5 ⟨rfl, rfl⟩))
            go_roundw
            case rel => exact ⟨j + 1, k', by omega, by omega, by simp, rfl, HXJ.out.alloc _, HEN.out⟩
            case measure => simp only [toM]; omega
          · have hin := of_decide_eq_true e5
            have h1' : ¬ ((n : Int) ≤ (i : Int)) := by omega
            have h2' : ¬ ((n' : Int) < (k' : Int) + 1) := by have := HE2.out; omega
            have h3' : ¬ ((k' : Int) + 1 = 0) := by omega
            have HEN := Lib.hid e8
            subst e6
            clear e8 e7 e5 hin e4
            go_wp2_with (first | (go_at_call 218; first | refine (HVYtdbnddmncbjobaaGreatDoor.out _ (HXI.out.alloc _)).mono ?_ | refine (HVYY.out _ (HXI.out.alloc _)).mono ?_; rintro e w5 ⟨rfl, rfl⟩))
            go_roundw
            case rel => exact ⟨j + 1, k' + 1, by omega, by omega, by simp, by simp, HXJ.out.alloc _, HEN.out⟩
            case measure => simp only [toM]; omega
end Go.Proofs.YtdbnddmncbjobaaGreatDoor
