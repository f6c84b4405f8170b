/- The contract of rollbookref18.Check. -/
import Derived.Test.YthjjdeabfnlbjaaWrong
import Derived.StillTailTactics
namespace Go.Proofs.Ythjjdeabfnlbjaa
open Go Go.RowKit

set_option maxRecDepth 100000 in
set_option maxHeartbeats 1000000 in
theorem rcheck_any (A : Option Addr) (n c : Nat) (l : List Vr) (w : World) (hl : n ≤ 1000) (hnc : n ≤ c) (h : SV w w.heap.size A n l) (hs : ∀ k, k < n → (vat l k).fc.kd.size ≤ maxLen) :
    Calls Try.prog 13 #[.slice A n c] w fun e w' => e = .returned (.int .i64 (checkOf l)) ∧ Ext w w' := by
  obtain rfl : l.length = n := h.1
  have HS := Lib.hid h; clear h
  have HK := Lib.hid hs; clear hs
  go_enter Try.func13, Try.ntmps13
  go_wp2
  go_loopw [3] (fun i wr => ∃ k : Nat, k ≤ l.length ∧ i = .int .i64 k ∧ checkAux l k = 0 ∧ Ext w wr) (fun i _ => l.length - (intOf i).toNat)
  case atStart => exact ⟨0, Nat.zero_le _, rfl, rfl, Ext.refl _⟩
  case round =>
    obtain ⟨k, hk, rfl, hc, hx⟩ := hrel
    have HC := Lib.hid hc; clear hc
    by_cases hlt : k < l.length
    · have hlt' : (k : Int) < l.length := by omega
      have hkc : k ≤ c := by omega
      have hkc' : (k : Int) ≤ c := by omega
      obtain ⟨b, off, rfl, hb, c0, c1, c2, c3, c4, c5, c6, c7⟩ := SV.at_ (SV.lift HS.out (Nat.le_refl _) hx) (k := k) hlt
      go_wp2
      go_still_tail 7, (by kernel_rfl)
      change wpList _ _ _ _ _ wr.drew
      go_wp2_with fail
      refine (wrong_any _ k c (l.take k) (vat l k) _ (by omega) (SV.take (SV.lift HS.out (Nat.le_refl _) hx.drew) hk) (HK.out k hlt)).mono ?_
      rintro e w1 ⟨rfl, hx1⟩
      have hst := check_step hlt HC.out
      have hbad := check_stop hlt HC.out
      revert hst hbad
      generalize wrongOf (l.take k) (vat l k) = e0
      intro hst hbad
      have HST := Lib.hid hst; clear hst
      have HB := Lib.hid hbad; clear hbad
      have hx2 := hx.drew.trans hx1
      by_cases he : e0 = 0
      · subst he
        go_wp2
        exact ⟨⟨k + 1, by omega, by go_num, HST.out, hx2⟩, by simp [intOf]; omega⟩
      · have hb1 : (e0 == 0) = false := by simpa using he
        have hb2 : (e0 != 0) = true := by simpa using he
        have HE := Lib.hid he; clear he
        go_wp2
        go_ret
        exact ⟨ret_int (HB.out HE.out).symm, hx2⟩
    · obtain rfl : k = l.length := by omega
      go_wp2
      go_ret
      exact ⟨ret_int HC.out.symm, hx⟩
end Go.Proofs.Ythjjdeabfnlbjaa
