/- What all walks of this claim share: worlds that grow; bytes and runes; the functions on runes. -/
import Derived.WalkKit
import Derived.WalkSpells
import Derived.WalkSmall
import Derived.WalkLawsBesides
import Derived.Below
import Derived.IntWalk
import Derived.Lib.Hide
import Derived.Test.YtbmcplnfamgpcaaDoorProg
import Derived.Test.YtbmcplnfamgpcaaDoorPlain
namespace Go.Proofs.YtbmcplnfamgpcaaDoor
open Go Go.RowKit

/-- w' is w with new blocks alone: every block that was there is as it was. A name of its own, so that no simp opens it. -/
def Ext (w w' : World) : Prop := Below w.heap.size w w'
theorem Ext.refl (w : World) : Ext w w := Below.refl _ _
theorem Ext.trans {a b c : World} (h : Ext a b) (k : Ext b c) : Ext a c := Below.trans h (Below.mono k h.size)
theorem Ext.alloc {a w : World} (h : Ext a w) (o : Obj) : Ext a (w.alloc o) := Below.alloc h h.size o
theorem Ext.drewN {a w : World} (h : Ext a w) (n : Nat) : Ext a (w.drewN n) := below_drewN h n
theorem Ext.drew {a w : World} (h : Ext a w) : Ext a w.drew := Below.drew h
theorem Ext.lt {a w : World} (h : Ext a w) : a.heap.size ≤ w.heap.size := h.size
theorem Ext.setCell {a w : World} (h : Ext a w) {p : Addr} (hp : a.heap.size ≤ p.block) (u : Value) : Ext a (w.setCell p u) := Below.setCell h hp u
theorem Ext.cells {w w1 : World} (hb : Ext w w1) : (∀ b o, b < w.heap.size → w1.cell? ⟨b, o, none⟩ = w.cell? ⟨b, o, none⟩) ∧ (∀ b o, b < w.heap.size → w1.frozen? ⟨b, o, none⟩ = w.frozen? ⟨b, o, none⟩) :=
  ⟨fun b o h => hb.cell (p := ⟨b, o, none⟩) h, fun b o h => hb.frozen (p := ⟨b, o, none⟩) h⟩
theorem ret_int {a b : Int} (h : a = b) : Ending.returned (.int .i64 a) = .returned (.int .i64 b) := by rw [h]
theorem ret_bool {a b : Bool} (h : a = b) : Ending.returned (.bool a) = .returned (.bool b) := by rw [h]
def BoolPost (b : Bool) (w : World) (e : Ending) (w' : World) : Prop := e = .returned (.bool b) ∧ Ext w w'
def StrPost (s : List UInt8) (w : World) (e : Ending) (w' : World) : Prop := e = .returned (.string ⟨s.toArray⟩) ∧ Ext w w'
theorem list_size (s : ByteArray) : s.data.toList.length = s.size := by simp
theorem get_list (s : ByteArray) (pos : Nat) (h : pos < s.size) : s.data.toList.drop pos = (s[pos]'h) :: s.data.toList.drop (pos + 1) := by
  have h' : pos < s.data.toList.length := by simpa using h
  rw [List.drop_eq_getElem_cons h']
  rfl
theorem drop_end (s : ByteArray) (pos : Nat) (h : ¬ pos < s.size) : s.data.toList.drop pos = [] := by
  apply List.drop_eq_nil_of_le
  rw [list_size]; omega
theorem next_end (W : World) (b : Nat) (hb : b = W.heap.size) (s : ByteArray) (pos : Nat) (ty : TypeId) (h : ¬ pos < s.size) :
    (Instr.next (.pointer (some ⟨b, 0, none⟩)) true ty).run Tryd.prog (W.alloc (.stringIter s pos)) = .ok (.tuple #[.bool false]) (W.alloc (.stringIter s pos)) := by
  subst hb; exact run_next_end W s pos ty h
theorem next_any (W : World) (b : Nat) (hb : b = W.heap.size) (s : ByteArray) (pos : Nat) (ty : TypeId) (h : pos < s.size) :
    (Instr.next (.pointer (some ⟨b, 0, none⟩)) true ty).run Tryd.prog (W.alloc (.stringIter s pos)) = .ok (.tuple #[.bool true, .int .i64 pos, .int .i32 (Utf8.decode s pos).1]) (W.alloc (.stringIter s (pos + (Utf8.decode s pos).2))) := by
  subst hb; exact run_next_any W s pos ty h
theorem iterPos_at (W : World) (b : Nat) (hb : b = W.heap.size) (s : ByteArray) (p : Nat) : (W.alloc (.stringIter s p)).iterPos b = p := by
  subst hb; exact World.iterPos_iter W s p
/-- The bytes that a rune of more than one byte takes are all of the upper half. -/
theorem decode_cont (s : ByteArray) (pos : Nat) (h : pos < s.size) (ha : 128 ≤ (s[pos]'h).toNat) : ∀ j, pos ≤ j → j < pos + (Utf8.decode s pos).2 → ∃ hj : j < s.size, 128 ≤ (s[j]'hj).toNat := by
  have get : ∀ k, (hk : pos + k < s.size) → s.get! (pos + k) = s[pos + k]'hk := fun k hk => get_at s (pos + k) hk
  intro j h1 h2
  by_cases hj0 : j = pos
  · subst hj0; exact ⟨h, ha⟩
  have hb0 : ¬ (s.get! (pos + 0)).toNat < 128 := by rw [get_at s pos h]; omega
  have cont : ∀ k, (decide (pos + k < s.size) && ((s.get! (pos + k)).toNat / 64 == 2)) = true → ∃ hk : pos + k < s.size, 128 ≤ (s[pos + k]'hk).toNat := fun k hk => by
    simp only [Bool.and_eq_true, decide_eq_true_eq, beq_iff_eq] at hk
    refine ⟨hk.1, ?_⟩
    have := hk.2
    rw [get k hk.1] at this
    omega
  simp only [Utf8.decode, hb0, if_false] at h2
  split at h2
  · rename_i hc
    simp only [Bool.and_eq_true] at hc
    split at h2
    · obtain rfl : j = pos + 1 := by simp at h2; omega
      exact cont 1 (by simpa using hc.2)
    · simp at h2; omega
  · split at h2
    · rename_i hc
      simp only [Bool.and_eq_true] at hc
      split at h2
      · have hj : j = pos + 1 ∨ j = pos + 2 := by simp at h2; omega
        rcases hj with rfl | rfl
        · exact cont 1 (by simpa using hc.1.2)
        · exact cont 2 (by simpa using hc.2)
      · simp at h2; omega
    · split at h2
      · rename_i hc
        simp only [Bool.and_eq_true] at hc
        split at h2
        · have hj : j = pos + 1 ∨ j = pos + 2 ∨ j = pos + 3 := by simp at h2; omega
          rcases hj with rfl | rfl | rfl
          · exact cont 1 (by simpa using hc.1.1.2)
          · exact cont 2 (by simpa using hc.1.2)
          · exact cont 3 (by simpa using hc.2)
        · simp at h2; omega
      · simp at h2; omega
end Go.Proofs.YtbmcplnfamgpcaaDoor
