/- The contracts of cite.valid, the reference's Valid, rollbookref01.Around. -/
import Derived.Test.YtbfogchdeijedaaDoorBase
namespace Go.Proofs.YtbfogchdeijedaaDoor
open Go Go.RowKit

def Ct.val (c : Ct) : Value := .agg #[.int .i64 c.br, .int .i64 c.nu, .int .i64 c.su, .int .i64 c.li]
theorem ret_bool {a b : Bool} (h : a = b) : Ending.returned (.bool a) = .returned (.bool b) := by rw [h]
theorem labE_eq (n s : Int) : labE n s = if labB n s then 0 else 5 := rfl
def BoolPost (b : Bool) (w : World) (e : Ending) (w' : World) : Prop := e = .returned (.bool b) ∧ Ext w w'
theorem citB_no {c : Ct} (h : c.br < 0 ∨ 256 ≤ c.br ∨ c.li < 1 ∨ 100 < c.li ∨ labB c.nu c.su = false) : citB c = false := by
  unfold citB
  rcases h with h | h | h | h | h
  · simp [show ¬ 0 ≤ c.br by omega]
  · simp [show ¬ c.br < 256 by omega]
  · simp [show ¬ 1 ≤ c.li by omega]
  · simp [show ¬ c.li ≤ 100 by omega]
  · simp [h]
theorem citB_yes {c : Ct} (h1 : 0 ≤ c.br) (h2 : c.br < 256) (h3 : 1 ≤ c.li) (h4 : c.li ≤ 100) (h5 : labB c.nu c.su = true) : citB c = true := by
  unfold citB; simp [h1, h2, h3, h4, h5]

set_option maxRecDepth 100000 in
theorem valid_any (c : Ct) (w : World) : Calls Tryd.prog 18 #[c.val] w (BoolPost (citB c) w) := by
  unfold Ct.val
  by_cases h1 : 0 ≤ c.br
  · by_cases h2 : c.br < 256
    · by_cases h3 : 1 ≤ c.li
      · by_cases h4 : c.li ≤ 100
        · cases hl : labB c.nu c.su
          · have hf := citB_no (c := c) (.inr (.inr (.inr (.inr hl))))
            have HF := Lib.hid hf
            have HE := Lib.hid (show labE c.nu c.su = 5 by rw [labE_eq, hl]; rfl)
            clear hf hl
            go_enter Tryd.func18, Tryd.ntmps18
            go_wp2_with (first | (go_at_call 32; refine (chk_any c.nu c.su _).mono ?_; rintro e w1 ⟨rfl, hx⟩; rw [HE.out]))
            go_ret
            exact ⟨ret_bool (by rw [HF.out]), ((Ext.refl _).alloc _).trans hx⟩
          · have hf := citB_yes h1 h2 h3 h4 hl
            have HF := Lib.hid hf
            have HE := Lib.hid (show labE c.nu c.su = 0 by rw [labE_eq, hl]; rfl)
            clear hf hl
            go_enter Tryd.func18, Tryd.ntmps18
            go_wp2_with (first | (go_at_call 32; refine (chk_any c.nu c.su _).mono ?_; rintro e w1 ⟨rfl, hx⟩; rw [HE.out]))
            go_ret
            exact ⟨ret_bool (by rw [HF.out]), ((Ext.refl _).alloc _).trans hx⟩
        · have hf := citB_no (c := c) (.inr (.inr (.inr (.inl (by omega)))))
          have HF := Lib.hid hf; clear hf
          have hd : decide (c.li ≤ 100) = false := decide_eq_false h4
          go_enter Tryd.func18, Tryd.ntmps18
          go_wp2
          go_ret
          exact ⟨ret_bool (by rw [HF.out]), (Ext.refl _).alloc _⟩
      · have hf := citB_no (c := c) (.inr (.inr (.inl (by omega))))
        have HF := Lib.hid hf; clear hf
        have hd : decide (1 ≤ c.li) = false := decide_eq_false h3
        go_enter Tryd.func18, Tryd.ntmps18
        go_wp2
        go_ret
        exact ⟨ret_bool (by rw [HF.out]), (Ext.refl _).alloc _⟩
    · have hf := citB_no (c := c) (.inr (.inl (by omega)))
      have HF := Lib.hid hf; clear hf
      have hd : decide (c.br < 256) = false := decide_eq_false h2
      go_enter Tryd.func18, Tryd.ntmps18
      go_wp2
      go_ret
      exact ⟨ret_bool (by rw [HF.out]), (Ext.refl _).alloc _⟩
  · have hf := citB_no (c := c) (.inl (by omega))
    have HF := Lib.hid hf; clear hf
    have hd : decide (0 ≤ c.br) = false := decide_eq_false h1
    go_enter Tryd.func18, Tryd.ntmps18
    go_wp2
    go_ret
    exact ⟨ret_bool (by rw [HF.out]), (Ext.refl _).alloc _⟩

def IntSame (lo hi : Int) (w : World) (e : Ending) (w' : World) : Prop := ∃ r : Int, e = .returned (.int .i64 r) ∧ lo ≤ r ∧ r < hi ∧ w = w'
theorem neg_tmod_in (n m : Int) (h : n < 0) (h3 : 1 ≤ m) : (n + 1).tmod m ≤ 0 ∧ -(n + 1).tmod m < m := by
  have e : -((n + 1).tmod m) = (-(n + 1)) % m := by rw [← Int.neg_tmod, Int.tmod_eq_emod_of_nonneg (by omega)]
  have hb1 := Int.emod_nonneg (-(n + 1)) (show m ≠ 0 by omega)
  have hb2 := Int.emod_lt_of_pos (-(n + 1)) (show 0 < m by omega)
  omega
theorem around_any (n m : Int) (w : World) (h1 : -9223372036854775808 ≤ n) (h2 : n ≤ 9223372036854775807) (h3 : 1 ≤ m) (h4 : m ≤ 1000000000) :
    Calls Tryd.prog 8 #[.int .i64 n, .int .i64 m] w (IntSame 0 m w) := by
  by_cases h : n < 0
  · have hb := neg_tmod_in n m h h3
    have HB := Lib.hid hb; clear hb
    go_enter Tryd.func8, Tryd.ntmps8
    go_wp2
    go_ret
    exact ⟨_, rfl, by simpa using HB.out.1, by simpa using HB.out.2, rfl⟩
  · have hb1 := Int.emod_nonneg n (show m ≠ 0 by omega)
    have hb2 := Int.emod_lt_of_pos n (show 0 < m by omega)
    go_enter Tryd.func8, Tryd.ntmps8
    go_wp2
    go_ret
    exact ⟨_, rfl, by simpa using hb1, by simpa using hb2, rfl⟩
end Go.Proofs.YtbfogchdeijedaaDoor
