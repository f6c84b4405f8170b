/- The contracts of slices.Clone on versions, rollbookref18.Append and facts.Append. -/
import Derived.Test.YthjjdeabfnlbjaaOwn
import Derived.Test.YthjjdeabfnlbjaaWrong
import Derived.Test.YthjjdeabfnlbjaaOf
namespace Go.Proofs.Ythjjdeabfnlbjaa
open Go Go.RowKit

def ClonePost (l : List Vr) (w : World) (e : Ending) (w' : World) : Prop := ∃ A c, e = .returned (.slice A l.length c) ∧ OV w' w.heap.size (.slice A l.length c) l ∧ Ext w w'

theorem own_empty (w : World) : OV (w.alloc (.cells #[] 32)) w.heap.size (.slice (some ⟨w.heap.size, 0, none⟩) 0 0) [] := World.ownsRow_made w #[] 0 (Nat.le_refl _) (by simp [maxLen]) rfl

set_option maxRecDepth 100000 in
set_option maxHeartbeats 1000000 in
theorem clone_any (A : Option Addr) (n c : Nat) (l : List Vr) (w : World) (hl : n ≤ 1000) (h : SV w w.heap.size A n l) :
    Calls Try.prog 36 #[.slice A n c] w (ClonePost l w) := by
  obtain rfl : l.length = n := h.1
  have HS := Lib.hid h; clear h
  have hk := fun (w : World) (a : Option Addr) (n c : Nat) => Lib.run_eql_slice_nil (P := Try.prog) w 22 32 a n c 0 0 Try.underlying22
  cases A with
  | none =>
    have h0 : l = [] := by
      rcases Nat.eq_zero_or_pos l.length with h | h
      · exact List.eq_nil_of_length_eq_zero h
      · obtain ⟨b, off, e, _⟩ := HS.out.2 h; cases e
    subst h0
    go_enter Try.func36, Try.ntmps36
    go_wp2
    go_ret
    exact ⟨none, 0, rfl, OV.nil _ _, Ext.refl _⟩
  | some ad =>
    obtain ⟨A', c', w', hrun, hown, hb, _⟩ := (own_empty w).append (SV.ext HS.out ((Ext.refl w).alloc (.cells #[] 32)) (Nat.le_refl _)) c (by simp; omega) (by simp)
    simp only [List.length_nil, Nat.zero_add, List.nil_append] at hrun hown
    have HO := Lib.hid hown; clear hown
    have hx : Ext w w' := Below.trans ((Ext.refl w).alloc (.cells #[] 32)) (hb _ (Nat.le_refl _))
    go_enter Try.func36, Try.ntmps36
    go_wp2_with (at_builtin; refine wpList_append_run hrun rfl rfl rfl rfl rfl ?_)
    go_ret
    exact ⟨A', c', rfl, HO.out, hx⟩
end Go.Proofs.Ythjjdeabfnlbjaa
