/- The contract of the reference's Valid. -/
import Derived.Test.YtbfogchdeijedaaDoorValid
namespace Go.Proofs.YtbfogchdeijedaaDoor
open Go Go.RowKit

theorem chk_rchk (c : Ct) (W : World) (e0 : Int) (he : labE c.nu c.su = e0) : Calls Tryd.prog 39 #[.agg #[.int .i64 c.nu, .int .i64 c.su]] W fun e w' => e = .returned (.int .i64 e0) ∧ Ext W w' :=
  (rchk_any c.nu c.su W).mono fun _ _ ⟨h1, h2⟩ => ⟨by rw [← he]; exact h1, h2⟩
set_option maxRecDepth 100000 in
theorem rvalid_any (c : Ct) (w : World) : Calls Tryd.prog 20 #[c.val] w (BoolPost (citB c) w) := by
  unfold Ct.val
  have HC := Lib.hid (fun (e : Int) (he : labE c.nu c.su = e) (W : World) => (chk_rchk c W e he))
  cases hl : labB c.nu c.su
  · have hf := citB_no (c := c) (.inr (.inr (.inr (.inr hl))))
    have HF := Lib.hid hf
    have HE := Lib.hid (show labE c.nu c.su = 5 by rw [labE_eq, hl]; rfl)
    clear hf hl
    go_enter Tryd.func20, Tryd.ntmps20
    go_wp2_with (first | (go_at_call 39; refine (HC.out 5 HE.out _).mono ?_; rintro e w1 ⟨rfl, hx⟩; obtain ⟨q, p⟩ := hx.cells; have hz : w.heap.size < w1.heap.size := (by have a1 := hx.lt; simp at a1; omega)))
    go_ret
    exact ⟨ret_bool (by rw [HF.out]), ((Ext.refl _).alloc _).trans hx⟩
  · have HE := Lib.hid (show labE c.nu c.su = 0 by rw [labE_eq, hl]; rfl)
    have HL := Lib.hid hl
    clear hl
    by_cases h1 : 0 ≤ c.br
    · by_cases h2 : c.br < 256
      · by_cases h3 : 1 ≤ c.li
        · by_cases h4 : c.li ≤ 100
          · have HF := Lib.hid (citB_yes h1 h2 h3 h4 HL.out)
            go_enter Tryd.func20, Tryd.ntmps20
            go_wp2_with (first | (go_at_call 39; refine (HC.out 0 HE.out _).mono ?_; rintro e w1 ⟨rfl, hx⟩; obtain ⟨q, p⟩ := hx.cells; have hz : w.heap.size < w1.heap.size := (by have a1 := hx.lt; simp at a1; omega)))
            go_ret
            exact ⟨ret_bool (by rw [HF.out]), ((Ext.refl _).alloc _).trans hx⟩
          · have HF := Lib.hid (citB_no (c := c) (.inr (.inr (.inr (.inl (by omega))))))
            have hd : decide (c.li ≤ 100) = false := decide_eq_false h4
            go_enter Tryd.func20, Tryd.ntmps20
            go_wp2_with (first | (go_at_call 39; refine (HC.out 0 HE.out _).mono ?_; rintro e w1 ⟨rfl, hx⟩; obtain ⟨q, p⟩ := hx.cells; have hz : w.heap.size < w1.heap.size := (by have a1 := hx.lt; simp at a1; omega)))
            go_ret
            exact ⟨ret_bool (by rw [HF.out]), ((Ext.refl _).alloc _).trans hx⟩
        · have HF := Lib.hid (citB_no (c := c) (.inr (.inr (.inl (by omega)))))
          have hd : decide (1 ≤ c.li) = false := decide_eq_false h3
          go_enter Tryd.func20, Tryd.ntmps20
          go_wp2_with (first | (go_at_call 39; refine (HC.out 0 HE.out _).mono ?_; rintro e w1 ⟨rfl, hx⟩; obtain ⟨q, p⟩ := hx.cells; have hz : w.heap.size < w1.heap.size := (by have a1 := hx.lt; simp at a1; omega)))
          go_ret
          exact ⟨ret_bool (by rw [HF.out]), ((Ext.refl _).alloc _).trans hx⟩
      · have HF := Lib.hid (citB_no (c := c) (.inr (.inl (by omega))))
        have hd : decide (c.br < 256) = false := decide_eq_false h2
        go_enter Tryd.func20, Tryd.ntmps20
        go_wp2_with (first | (go_at_call 39; refine (HC.out 0 HE.out _).mono ?_; rintro e w1 ⟨rfl, hx⟩; obtain ⟨q, p⟩ := hx.cells; have hz : w.heap.size < w1.heap.size := (by have a1 := hx.lt; simp at a1; omega)))
        go_ret
        exact ⟨ret_bool (by rw [HF.out]), ((Ext.refl _).alloc _).trans hx⟩
    · have HF := Lib.hid (citB_no (c := c) (.inl (by omega)))
      have hd : decide (0 ≤ c.br) = false := decide_eq_false h1
      go_enter Tryd.func20, Tryd.ntmps20
      go_wp2_with (first | (go_at_call 39; refine (HC.out 0 HE.out _).mono ?_; rintro e w1 ⟨rfl, hx⟩; obtain ⟨q, p⟩ := hx.cells; have hz : w.heap.size < w1.heap.size := (by have a1 := hx.lt; simp at a1; omega)))
      go_ret
      exact ⟨ret_bool (by rw [HF.out]), ((Ext.refl _).alloc _).trans hx⟩
end Go.Proofs.YtbfogchdeijedaaDoor
