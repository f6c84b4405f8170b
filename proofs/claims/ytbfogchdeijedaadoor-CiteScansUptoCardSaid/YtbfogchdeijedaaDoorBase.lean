/- What all walks of this claim share: worlds that grow; labels and citations as plain data. -/
import Derived.WalkKit
import Derived.WalkSpells
import Derived.WalkSmall
import Derived.Below
import Derived.Lib.Hide
import Derived.Test.YtbfogchdeijedaaDoorProg
namespace Go.Proofs.YtbfogchdeijedaaDoor
open Go Go.RowKit

/-- w' is w with new blocks alone: every block that was there is as it was. A name of its own, so that no simp opens it. -/
def Ext (w w' : World) : Prop := Below w.heap.size w w'
theorem Ext.refl (w : World) : Ext w w := Below.refl _ _
theorem Ext.trans {a b c : World} (h : Ext a b) (k : Ext b c) : Ext a c := Below.trans h (Below.mono k h.size)
theorem Ext.alloc {a w : World} (h : Ext a w) (o : Obj) : Ext a (w.alloc o) := Below.alloc h h.size o
theorem Ext.drewN {a w : World} (h : Ext a w) (n : Nat) : Ext a (w.drewN n) := below_drewN h n
theorem Ext.drew {a w : World} (h : Ext a w) : Ext a w.drew := Below.drew h
theorem Ext.lt {a w : World} (h : Ext a w) : a.heap.size ≤ w.heap.size := h.size
theorem Ext.cells {w w1 : World} (hb : Ext w w1) : (∀ b o, b < w.heap.size → w1.cell? ⟨b, o, none⟩ = w.cell? ⟨b, o, none⟩) ∧ (∀ b o, b < w.heap.size → w1.frozen? ⟨b, o, none⟩ = w.frozen? ⟨b, o, none⟩) :=
  ⟨fun b o h => hb.cell (p := ⟨b, o, none⟩) h, fun b o h => hb.frozen (p := ⟨b, o, none⟩) h⟩

/-- A citation as plain data: branch, number, suffix, line. -/
structure Ct where
  br : Int
  nu : Int
  su : Int
  li : Int
def labB (n s : Int) : Bool := decide (1 ≤ n) && (decide (n ≤ 16384) && (decide (0 ≤ s) && decide (s ≤ 16384)))
def labE (n s : Int) : Int := if labB n s then 0 else 5
def citB (c : Ct) : Bool := decide (0 ≤ c.br) && (decide (c.br < 256) && (decide (1 ≤ c.li) && (decide (c.li ≤ 100) && labB c.nu c.su)))

theorem labE_bad {n s : Int} (h : n < 1 ∨ 16384 < n ∨ s < 0 ∨ 16384 < s) : labE n s = 5 := by
  unfold labE labB
  rw [if_neg]
  simp; omega
theorem labE_ok {n s : Int} (h1 : ¬ n < 1) (h2 : ¬ 16384 < n) (h3 : ¬ s < 0) (h4 : ¬ 16384 < s) : labE n s = 0 := by
  unfold labE labB
  rw [if_pos]
  simp; omega
theorem ret_int {a b : Int} (h : a = b) : Ending.returned (.int .i64 a) = .returned (.int .i64 b) := by rw [h]

def LabPost (n s : Int) (w : World) (e : Ending) (w' : World) : Prop := e = .returned (.int .i64 (labE n s)) ∧ Ext w w'
theorem chk_any (n s : Int) (w : World) : Calls Tryd.prog 32 #[.agg #[.int .i64 n, .int .i64 s]] w (LabPost n s w) := by
  by_cases h1 : n < 1
  · have hf := labE_bad (s := s) (.inl h1)
    have HF := Lib.hid hf; clear hf
    go_enter Tryd.func32, Tryd.ntmps32
    go_wp2
    go_ret
    exact ⟨ret_int (by rw [HF.out]), (Ext.refl _).alloc _⟩
  · by_cases h2 : 16384 < n
    · have hf := labE_bad (s := s) (.inr (.inl h2))
      have HF := Lib.hid hf; clear hf
      go_enter Tryd.func32, Tryd.ntmps32
      go_wp2
      go_ret
      exact ⟨ret_int (by rw [HF.out]), (Ext.refl _).alloc _⟩
    · by_cases h3 : s < 0
      · have hf := labE_bad (n := n) (.inr (.inr (.inl h3)))
        have HF := Lib.hid hf; clear hf
        go_enter Tryd.func32, Tryd.ntmps32
        go_wp2
        go_ret
        exact ⟨ret_int (by rw [HF.out]), (Ext.refl _).alloc _⟩
      · by_cases h4 : 16384 < s
        · have hf := labE_bad (n := n) (.inr (.inr (.inr h4)))
          have HF := Lib.hid hf; clear hf
          go_enter Tryd.func32, Tryd.ntmps32
          go_wp2
          go_ret
          exact ⟨ret_int (by rw [HF.out]), (Ext.refl _).alloc _⟩
        · have hf := labE_ok h1 h2 h3 h4
          have HF := Lib.hid hf; clear hf
          go_enter Tryd.func32, Tryd.ntmps32
          go_wp2
          go_ret
          exact ⟨ret_int (by rw [HF.out]), (Ext.refl _).alloc _⟩
theorem rchk_any (n s : Int) (w : World) : Calls Tryd.prog 39 #[.agg #[.int .i64 n, .int .i64 s]] w (LabPost n s w) := by
  by_cases h1 : n < 1
  · have hf := labE_bad (s := s) (.inl h1)
    have HF := Lib.hid hf; clear hf
    go_enter Tryd.func39, Tryd.ntmps39
    go_wp2
    go_ret
    exact ⟨ret_int (by rw [HF.out]), (Ext.refl _).alloc _⟩
  · by_cases h2 : 16384 < n
    · have hf := labE_bad (s := s) (.inr (.inl h2))
      have HF := Lib.hid hf; clear hf
      go_enter Tryd.func39, Tryd.ntmps39
      go_wp2
      go_ret
      exact ⟨ret_int (by rw [HF.out]), (Ext.refl _).alloc _⟩
    · by_cases h3 : s < 0
      · have hf := labE_bad (n := n) (.inr (.inr (.inl h3)))
        have HF := Lib.hid hf; clear hf
        go_enter Tryd.func39, Tryd.ntmps39
        go_wp2
        go_ret
        exact ⟨ret_int (by rw [HF.out]), (Ext.refl _).alloc _⟩
      · by_cases h4 : 16384 < s
        · have hf := labE_bad (n := n) (.inr (.inr (.inr h4)))
          have HF := Lib.hid hf; clear hf
          go_enter Tryd.func39, Tryd.ntmps39
          go_wp2
          go_ret
          exact ⟨ret_int (by rw [HF.out]), (Ext.refl _).alloc _⟩
        · have hf := labE_ok h1 h2 h3 h4
          have HF := Lib.hid hf; clear hf
          go_enter Tryd.func39, Tryd.ntmps39
          go_wp2
          go_ret
          exact ⟨ret_int (by rw [HF.out]), (Ext.refl _).alloc _⟩
end Go.Proofs.YtbfogchdeijedaaDoor
