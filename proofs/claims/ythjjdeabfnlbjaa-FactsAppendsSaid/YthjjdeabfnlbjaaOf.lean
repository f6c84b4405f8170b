/- The contracts of facts.of, facts.Check. -/
import Derived.Test.YthjjdeabfnlbjaaAdd
namespace Go.Proofs.Ythjjdeabfnlbjaa
open Go Go.RowKit

def OfPost (l : List Vr) (w : World) (e : Ending) (w' : World) : Prop :=
  (checkOf l = 0 ∧ (∃ b, w.heap.size ≤ b ∧ e = .returned (.tuple #[.map (some b), .int .i64 (opOf l l.length), .int .i64 0]) ∧ PM w' b (presOf l)) ∨ checkOf l ≠ 0 ∧ e = .returned (.tuple #[.map none, .int .i64 0, .int .i64 (checkOf l)])) ∧ Ext w w'

theorem grown_ext {w w1 w2 : World} {b : Nat} (h : Ext w w1) (hg : w1.grownBy w2 (some b)) (hb : w.heap.size ≤ b) : Ext w w2 := h.grown hg (fun k e => by cases e; exact hb)
theorem PM.made (w : World) : PM (w.alloc (.map #[] 0)) w.heap.size (presOf []) := ⟨[], IMp.made w, fun _ => rfl⟩

set_option maxRecDepth 100000 in
set_option maxHeartbeats 2000000 in
theorem of_any (A : Option Addr) (n c : Nat) (l : List Vr) (w : World) (hl : n ≤ 1000) (h : SV w w.heap.size A n l) (hs : ∀ k, k < n → (vat l k).fc.kd.size ≤ maxLen) :
    Calls Try.prog 30 #[.slice A n c] w (OfPost l w) := by
  obtain rfl : l.length = n := h.1
  have HS := Lib.hid h; clear h
  have HK := Lib.hid hs; clear hs
  have hmm := @run_makeMap Try.prog
  go_enter Try.func30, Try.ntmps30
  go_wp2
  clear hmm
  go_loopw [6, 13] (fun o i wr => ∃ k : Nat, k ≤ l.length ∧ o = .int .i64 (opOf l k) ∧ i = .int .i64 k ∧ checkAux l k = 0 ∧ PM wr w.heap.size (presOf (l.take k)) ∧ Ext w wr) (fun _ i _ => l.length - (intOf i).toNat)
  case atStart => exact ⟨0, Nat.zero_le _, rfl, rfl, rfl, PM.made w, (Ext.refl _).alloc _⟩
  case round =>
    obtain ⟨k, hk, rfl, rfl, hc, hpm, hx⟩ := hrel
    have HC := Lib.hid hc; clear hc
    have HP := Lib.hid hpm; clear hpm
    by_cases hlt : k < l.length
    · have hlt' : (k : Int) < l.length := by omega
      obtain ⟨b, off, rfl, hb, c0, c1, c2, c3, c4, c5, c6, c7⟩ := SV.at_ (SV.lift HS.out (Nat.le_refl _) hx) (k := k) hlt
      go_wp2_with fail
      refine (add_any (presOf (l.take k)) w.heap.size (vat l k) (opOf l k) _ (HP.out.alloc _) (HK.out k hlt)).mono ?_
      rintro e w1 ⟨rfl, hg, hpm1⟩
      have hcell : w1.cell? ⟨wr.heap.size, 0, none⟩ = some (.int .i64 (vat l k).op) := by
        refine (World.cell?_of_block (hg.block _ (by simp) (fun e => ?_))).trans (by simp)
        have := HP.out.lt
        simp at e
        omega
      have hx1 : Ext w w1 := grown_ext (hx.alloc _) hg (Nat.le_refl _)
      have hst := check_step hlt HC.out
      have hbad := check_stop hlt HC.out
      have hop : opOf l (k + 1) = (vat l k).op := by simp [opOf]
      have HOP := Lib.hid hop; clear hop
      revert hst hbad hpm1
      rw [add_is_wrong l k hk]
      generalize wrongOf (l.take k) (vat l k) = e0
      intro hpm1 hst hbad
      have HST := Lib.hid hst; clear hst
      have HB := Lib.hid hbad; clear hbad
      have HPM := Lib.hid hpm1; clear hpm1
      by_cases he : e0 = 0
      · subst he
        have hp2 := HPM.out
        rw [if_pos rfl, ← presOf_step l k hlt] at hp2
        have HP2 := Lib.hid hp2; clear hp2
        go_wp2
        exact ⟨⟨k + 1, by omega, by rw [HOP.out], by go_num, HST.out, HP2.out, hx1⟩, by simp [intOf]; omega⟩
      · have hb1 : (e0 == 0) = false := by simpa using he
        have hb2 : (e0 != 0) = true := by simpa using he
        have HE := Lib.hid he; clear he
        go_wp2
        go_ret3
        have hbad := HB.out HE.out
        exact ⟨.inr ⟨by rw [hbad]; exact HE.out, by rw [hbad]; rfl⟩, hx1⟩
    · obtain rfl : k = l.length := by omega
      have hp2 := HP.out
      rw [List.take_length] at hp2
      have HP2 := Lib.hid hp2; clear hp2
      go_wp2
      go_ret3
      exact ⟨.inl ⟨HC.out, w.heap.size, Nat.le_refl _, rfl, HP2.out⟩, hx⟩

set_option maxRecDepth 100000 in
set_option maxHeartbeats 1000000 in
theorem check_any (A : Option Addr) (n c : Nat) (l : List Vr) (w : World) (hl : n ≤ 1000) (h : SV w w.heap.size A n l) (hs : ∀ k, k < n → (vat l k).fc.kd.size ≤ maxLen) :
    Calls Try.prog 12 #[.slice A n c] w fun e w' => e = .returned (.int .i64 (checkOf l)) ∧ Ext w w' := by
  have H30 := Lib.hid (of_any A n c l w hl h hs); clear h hs
  go_enter Try.func12, Try.ntmps12
  go_wp2_with fail
  refine H30.out.mono ?_
  rintro e w1 ⟨⟨hc, b, hb, rfl, hpm⟩ | ⟨hc, rfl⟩, hx⟩
  · have HC := Lib.hid hc; clear hc
    go_wp2
    go_ret
    exact ⟨ret_int HC.out.symm, by first | exact hx | exact hx.alloc _⟩
  · clear hc
    go_wp2
    go_ret
    exact ⟨rfl, by first | exact hx | exact hx.alloc _⟩
end Go.Proofs.Ythjjdeabfnlbjaa
