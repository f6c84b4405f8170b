/- The contract of rollbookref18.wrong. -/
import Derived.Test.YthjjdeabfnlbjaaLast
namespace Go.Proofs.Ythjjdeabfnlbjaa
open Go Go.RowKit

set_option maxRecDepth 100000 in
set_option maxHeartbeats 1000000 in
theorem wrong_any (A : Option Addr) (n c : Nat) (l : List Vr) (v : Vr) (w : World) (hl : n ≤ 1000) (h : SV w w.heap.size A n l) (hs : v.fc.kd.size ≤ maxLen) :
    Calls Try.prog 31 #[.slice A n c, v.val] w fun e w' => e = .returned (.int .i64 (wrongOf l v)) ∧ Ext w w' := by
  obtain rfl : l.length = n := h.1
  have HS := Lib.hid h; clear h
  unfold Vr.val
  by_cases h1 : v.op < 0
  · have hf : wrongOf l v = 5 := by simp [wrongOf, h1]
    have HF := Lib.hid hf; clear hf
    go_enter Try.func31, Try.ntmps31
    go_wp2
    go_ret
    exact ⟨ret_int (by rw [HF.out]), (Ext.refl _).alloc _⟩
  cases hst : v.st
  · cases hok : okF v.fc
    · have hf : wrongOf l v = 5 := by simp [wrongOf, h1, hst, hok]
      have HF := Lib.hid hf; clear hf
      go_enter Try.func31, Try.ntmps31
      go_wp2_with (first | (go_at_call 46; refine (Valid_any v.fc _ hs).mono ?_; rintro e w1 ⟨rfl, hx⟩; obtain ⟨hc, hf⟩ := hx.cells))
      go_ret
      exact ⟨ret_int (by rw [HF.out]), ((Ext.refl _).alloc _).trans hx⟩
    · have hin : inB v.fc.en 0 65535 = true := by simp only [okF, Bool.and_eq_true] at hok; exact hok.1
      by_cases hlen : l.length = 0
      · obtain rfl : l = [] := List.eq_nil_of_length_eq_zero hlen
        have hf := wrongOf_end (l := []) h1 (by simp [hok]) hin (by simp)
        have HF := Lib.hid hf; clear hf hlen
        go_enter Try.func31, Try.ntmps31
        go_wp2_with (first | (go_at_call 46; refine (Valid_any v.fc _ hs).mono ?_; rintro e w1 ⟨rfl, hx⟩; obtain ⟨hc, hf⟩ := hx.cells; have hz1 : w.heap.size < w1.heap.size := (by have a1 := hx.lt; simp at a1; omega)) | (go_at_call 47; refine (in_any _ _ _ _).mono ?_; rintro e w' ⟨rfl, rfl⟩))
        go_quiet (fail)
        go_wp2_with (first | (go_at_call 41; refine (last_any _ _ _ [] _ _ (by first | exact hl | simp) (SV.lift HS.out (Nat.le_refl _) ((((Ext.refl _).alloc _).trans hx).drewN _))).mono ?_; rintro e w2 ⟨u, b2, rfl, hla, hx2⟩; have HLA := Lib.hid hla; clear hla; clear hc hf; obtain ⟨hc2, hf2⟩ := (Ext.trans (Ext.drewN hx _) hx2).cells; have hz2 : w.heap.size < w2.heap.size := (by have a1 := hx2.lt; have a2 := hx.lt; simp at a1 a2; omega)))
        all_goals
          go_ret
          exact ⟨ret_int (by have e := HLA.out; rw [HF.out]; simp [hst]), ((((((Ext.refl _).alloc _).trans hx).drewN _).trans hx2).alloc _)⟩
      · have hl0 : decide (0 < l.length) = true := by simp; omega
        obtain ⟨b, off, rfl, hb, c0, c1, c2, c3, c4, c5, c6, c7⟩ := SV.at_ HS.out (k := l.length - 1) (by omega)
        cases ho : decide (v.op < (vat l (l.length - 1)).op)
        · have hf := wrongOf_end h1 (by simp [hok]) hin (fun h => of_decide_eq_false ho h.2)
          have HF := Lib.hid hf; clear hf
          go_enter Try.func31, Try.ntmps31
          go_wp2_with (first | (go_at_call 46; refine (Valid_any v.fc _ hs).mono ?_; rintro e w1 ⟨rfl, hx⟩; obtain ⟨hc, hf⟩ := hx.cells; have hz1 : w.heap.size < w1.heap.size := (by have a1 := hx.lt; simp at a1; omega)) | (go_at_call 47; refine (in_any _ _ _ _).mono ?_; rintro e w' ⟨rfl, rfl⟩))
          go_quiet (fail)
          go_wp2_with (first | (go_at_call 41; refine (last_any _ _ _ l _ _ (by first | exact hl | simp) (SV.lift HS.out (Nat.le_refl _) ((((Ext.refl _).alloc _).trans hx).drewN _))).mono ?_; rintro e w2 ⟨u, b2, rfl, hla, hx2⟩; have HLA := Lib.hid hla; clear hla; clear hc hf; obtain ⟨hc2, hf2⟩ := (Ext.trans (Ext.drewN hx _) hx2).cells; have hz2 : w.heap.size < w2.heap.size := (by have a1 := hx2.lt; have a2 := hx.lt; simp at a1 a2; omega)))
          all_goals
            go_ret
            exact ⟨ret_int (by have e := HLA.out; rw [HF.out]; simp [hst]), ((((((Ext.refl _).alloc _).trans hx).drewN _).trans hx2).alloc _)⟩
        · have hf := wrongOf_12 h1 (by simp [hok]) hin (by omega) (of_decide_eq_true ho)
          have HF := Lib.hid hf; clear hf
          go_enter Try.func31, Try.ntmps31
          go_wp2_with (first | (go_at_call 46; refine (Valid_any v.fc _ hs).mono ?_; rintro e w1 ⟨rfl, hx⟩; obtain ⟨hc, hf⟩ := hx.cells; have hz1 : w.heap.size < w1.heap.size := (by have a1 := hx.lt; simp at a1; omega)) | (go_at_call 47; refine (in_any _ _ _ _).mono ?_; rintro e w' ⟨rfl, rfl⟩))
          go_quiet (fail)
          go_wp2_with (first | (go_at_call 41; refine (last_any _ _ _ l _ _ (by first | exact hl | simp) (SV.lift HS.out (Nat.le_refl _) ((((Ext.refl _).alloc _).trans hx).drewN _))).mono ?_; rintro e w2 ⟨u, b2, rfl, hla, hx2⟩; have HLA := Lib.hid hla; clear hla; clear hc hf; obtain ⟨hc2, hf2⟩ := (Ext.trans (Ext.drewN hx _) hx2).cells; have hz2 : w.heap.size < w2.heap.size := (by have a1 := hx2.lt; have a2 := hx.lt; simp at a1 a2; omega)))
          go_ret
          exact ⟨ret_int (by rw [HF.out]), ((((Ext.refl _).alloc _).trans hx).drewN _)⟩
  · cases hin : inB v.fc.en 0 65535
    · have hf : wrongOf l v = 5 := by simp [wrongOf, h1, hst, hin]
      have HF := Lib.hid hf; clear hf
      go_enter Try.func31, Try.ntmps31
      go_wp2_with (first | (go_at_call 47; refine (in_any _ _ _ _).mono ?_; rintro e w' ⟨rfl, rfl⟩))
      go_ret
      exact ⟨ret_int (by rw [HF.out]), (Ext.refl _).alloc _⟩
    · have _ht := True.intro
      by_cases hlen : l.length = 0
      · obtain rfl : l = [] := List.eq_nil_of_length_eq_zero hlen
        have hf := wrongOf_end (l := []) h1 (by simp [hst]) hin (by simp)
        have HF := Lib.hid hf; clear hf hlen
        go_enter Try.func31, Try.ntmps31
        go_wp2_with (first | (go_at_call 47; refine (in_any _ _ _ _).mono ?_; rintro e w' ⟨rfl, rfl⟩))
        go_quiet (fail)
        go_wp2_with (first | (go_at_call 41; refine (last_any _ _ _ [] _ _ (by first | exact hl | simp) (SV.lift HS.out (Nat.le_refl _) (((Ext.refl _).alloc _).drewN _))).mono ?_; rintro e w2 ⟨u, b2, rfl, hla, hx2⟩; have HLA := Lib.hid hla; clear hla; obtain ⟨hc2, hf2⟩ := hx2.cells; have hz2 : w.heap.size < w2.heap.size := (by have a1 := hx2.lt; simp at a1; omega)))
        all_goals
          go_ret
          exact ⟨ret_int (by have e := HLA.out; rw [HF.out]; simp [*]), (((((Ext.refl _).alloc _).drewN _).trans hx2).alloc _)⟩
      · have hl0 : decide (0 < l.length) = true := by simp; omega
        obtain ⟨b, off, rfl, hb, c0, c1, c2, c3, c4, c5, c6, c7⟩ := SV.at_ HS.out (k := l.length - 1) (by omega)
        cases ho : decide (v.op < (vat l (l.length - 1)).op)
        · have hf := wrongOf_end h1 (by simp [hst]) hin (fun h => of_decide_eq_false ho h.2)
          have HF := Lib.hid hf; clear hf
          go_enter Try.func31, Try.ntmps31
          go_wp2_with (first | (go_at_call 47; refine (in_any _ _ _ _).mono ?_; rintro e w' ⟨rfl, rfl⟩))
          go_quiet (fail)
          go_wp2_with (first | (go_at_call 41; refine (last_any _ _ _ l _ _ (by first | exact hl | simp) (SV.lift HS.out (Nat.le_refl _) (((Ext.refl _).alloc _).drewN _))).mono ?_; rintro e w2 ⟨u, b2, rfl, hla, hx2⟩; have HLA := Lib.hid hla; clear hla; obtain ⟨hc2, hf2⟩ := hx2.cells; have hz2 : w.heap.size < w2.heap.size := (by have a1 := hx2.lt; simp at a1; omega)))
          all_goals
            go_ret
            exact ⟨ret_int (by have e := HLA.out; rw [HF.out]; simp [*]), (((((Ext.refl _).alloc _).drewN _).trans hx2).alloc _)⟩
        · have hf := wrongOf_12 h1 (by simp [hst]) hin (by omega) (of_decide_eq_true ho)
          have HF := Lib.hid hf; clear hf
          go_enter Try.func31, Try.ntmps31
          go_wp2_with (first | (go_at_call 47; refine (in_any _ _ _ _).mono ?_; rintro e w' ⟨rfl, rfl⟩))
          go_quiet (fail)
          go_wp2_with (first | (go_at_call 41; refine (last_any _ _ _ l _ _ (by first | exact hl | simp) (SV.lift HS.out (Nat.le_refl _) (((Ext.refl _).alloc _).drewN _))).mono ?_; rintro e w2 ⟨u, b2, rfl, hla, hx2⟩; have HLA := Lib.hid hla; clear hla; obtain ⟨hc2, hf2⟩ := hx2.cells; have hz2 : w.heap.size < w2.heap.size := (by have a1 := hx2.lt; simp at a1; omega)))
          go_ret
          exact ⟨ret_int (by rw [HF.out]), (((Ext.refl _).alloc _).drewN _)⟩
end Go.Proofs.Ythjjdeabfnlbjaa
