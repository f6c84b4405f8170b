/- The contract of the reference's Text of a label, on valid labels. -/
import Derived.Test.YtbfogchdeijedaaDoorLab
import Derived.Test.YtbfogchdeijedaaDoorDec
import Derived.Deep.QuietTactic
import Derived.BigQuiet
namespace Go.Proofs.YtbfogchdeijedaaDoor
open Go Go.RowKit

set_option maxRecDepth 100000 in
theorem rltext_any (n s : Nat) (w : World) (hn : 1 ≤ n ∧ n ≤ 16384) (hs : s ≤ 16384) : Calls Tryd.prog 22 #[.agg #[.int .i64 n, .int .i64 s]] w (LTextPost n s w) := by
  have hl : labE n s = 0 := labE_ok (by omega) (by omega) (by omega) (by omega)
  have HE := Lib.hid hl; clear hl
  have hlen : (⟨(Lib.decDigits n).toArray⟩ : ByteArray).size ≤ 100 := by
    have h21 := Lib.itoa_length_le (n : Int) (by omega) (by omega)
    rw [show Lib.itoa (n : Int) = Lib.decDigits n by unfold Lib.itoa; rw [if_neg (by omega)]; simp] at h21
    show (Lib.decDigits n).toArray.size ≤ 100
    simp; omega
  have hlen2 : (⟨(lets s).toArray⟩ : ByteArray).size ≤ 16384 := by
    have h0 : ∀ u, (lets u).length ≤ u := fun u => by
      induction u using Nat.strongRecOn with
      | _ u ih =>
        by_cases hu : u = 0
        · subst hu; rw [lets_zero]; simp
        · rw [lets_pos hu]
          have := ih ((u - 1) / 26) (by omega)
          simp; omega
    have := h0 s
    show (lets s).toArray.size ≤ 16384
    simp; omega
  have HL1 := Lib.hid hlen
  have HL2 := Lib.hid hlen2
  go_enter Tryd.func22, Tryd.ntmps22
  go_wp2_with (first | (go_at_call 39; refine (rchk_any n s _).mono ?_; rintro e w1 ⟨rfl, hx⟩; rw [HE.out]; obtain ⟨q, p⟩ := hx.cells; have hz : w.heap.size < w1.heap.size := (by have a1 := hx.lt; simp at a1; omega)))
  go_quiet (first | (go_at_call 40; refine Calls.quiet_of_same ((dec3_any n _ (by omega)).mono fun _ _ ⟨h1, h2⟩ => ⟨h1, h2.symm⟩)) | (go_at_call 41; refine Calls.quiet_of_same ((letters_any s _ (by omega)).mono fun _ _ ⟨h1, h2⟩ => ⟨h1, h2.symm⟩)))
  go_wp2
  go_ret
  exact ⟨congrArg (fun z => Ending.returned (.string z)) (ba_append _ _), (((Ext.refl w).alloc _).trans hx).drewN _⟩
end Go.Proofs.YtbfogchdeijedaaDoor
