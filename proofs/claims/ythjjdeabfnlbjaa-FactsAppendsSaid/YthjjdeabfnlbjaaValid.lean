/- The contracts of rollbookref18.Valid and facts.valid. -/
import Derived.Test.YthjjdeabfnlbjaaWord
import Derived.BigGuardPart
namespace Go.Proofs.Ythjjdeabfnlbjaa
open Go Go.RowKit


theorem inB_bd {n lo hi : Int} (h : inB n lo hi = true) : lo ≤ n ∧ n ≤ hi := by simpa [inB] using h

set_option maxRecDepth 100000 in
set_option maxHeartbeats 1000000 in
theorem Valid_any (f : Fc) (w : World) (hs : f.kd.size ≤ maxLen) :
    Calls Try.prog 46 #[f.val] w fun e w' => e = .returned (.bool (okF f)) ∧ Ext w w' := by
  unfold Fc.val
  go_enter Try.func46, Try.ntmps46
  go_wp2_with (first | (go_at_call 47; refine (in_any _ _ _ _).mono ?_; rintro e w' ⟨rfl, rfl⟩) | (go_at_call 56; refine (rword_any _ _ hs).mono ?_; rintro e w' ⟨rfl, rfl⟩))
  all_goals
    go_ret
    exact ⟨ret_bool (by simp [okF, *]), (Ext.refl _).alloc _⟩
set_option maxRecDepth 100000 in
set_option maxHeartbeats 1000000 in
theorem valid_any (f : Fc) (w : World) (hs : f.kd.size ≤ maxLen) :
    Calls Try.prog 50 #[f.val] w fun e w' => e = .returned (.bool (okF f)) ∧ Ext w w' := by
  unfold Fc.val
  go_enter Try.func50, Try.ntmps50
  go_wp2_with (first | (go_at_call 49; refine (fin_any _ _ _).mono ?_; rintro e w' ⟨rfl, rfl⟩) | (go_at_call 58; refine (pword_any _ _ hs).mono ?_; rintro e w' ⟨rfl, nq, rfl⟩))
  all_goals
    go_ret
    refine ⟨ret_bool ?_, (by first | exact (Ext.refl _).alloc _ | exact ((Ext.refl _).alloc _).drewN _)⟩
    first | (simp [okF, *]; done) | (simp [okF, *]; simp [inB, *]; done) | (simp [okF, *]; simp [inB]; omega)
end Go.Proofs.Ythjjdeabfnlbjaa
