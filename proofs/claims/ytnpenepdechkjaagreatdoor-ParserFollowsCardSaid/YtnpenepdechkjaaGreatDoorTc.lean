/- The law's known walked. -/
import Derived.Test.YtnpenepdechkjaaGreatDoorTb
namespace Go.Proofs.YtnpenepdechkjaaGreatDoor
open Go Go.RowKit

theorem Kn.inv {ts : List Tk} {k n : Int} {s : List UInt8} {ks : List Tr} (h : Kn ts (.nd k n s ks)) : Occ ts k n s ∧ ∀ t ∈ ks, Kn ts t := by
  cases h with
  | mk k n s ks h hk => exact ⟨h, hk⟩
def KnRel (W : World) (n : Nat) (s5 : Value) (X : World) : Prop := ∃ k : Nat, k ≤ n ∧ s5 = .int .i64 k ∧ Ext W X
set_option maxHeartbeats 2000000 in
set_option maxRecDepth 100000 in
theorem known_any (ts : List Tk) (A : Option Addr) (c : Nat) (hlen : ts.length ≤ 1000000) (hts : ∀ t ∈ ts, t.tx.length ≤ 100000) : ∀ (N : Nat) (t : Tr) (d : Nd) (P : Nat → Prop) (W : World), tsz t ≤ N → tsz t ≤ 1000000 → Rep W P d t → Kn ts t → SL tcf 4 W A ts.length ts → Tab W →
    Calls Tryz.prog 30 #[.agg #[.int .i64 d.k, .int .i64 d.n, .string d.s, .slice d.A d.m d.c], .slice A ts.length c] W (BQ2 true W) := by
  intro N
  induction N with
  | zero => intro t _ _ _ h; cases t; simp [tsz] at h
  | succ N ih =>
    intro t d P W hN hT hd hK hSL htab
    obtain ⟨k, n, s, ks⟩ := t
    obtain ⟨e1, e2, e3, e4⟩ := hd.fields
    obtain ⟨ho, hks⟩ := hK.inv
    have hl := len_tszs ks
    simp only [tsz] at hN hT
    have HD := Lib.hid hd
    have HIH := Lib.hid ih
    have HKS := Lib.hid hks
    have HSL := Lib.hid hSL
    have HTB := Lib.hid htab
    obtain ⟨dk, dn, ds, dA, dm, dc⟩ := d
    simp only at e1 e2 e3 e4 ⊢
    subst e1 e2 e4
    have HOC := Lib.hid (fun X (hX : Ext W X) => occurs_any ts A c dk dn ds (.slice dA ks.length dc) ⟨_, _, _, rfl⟩ s e3 X ho (hSL.ext hX) hlen hts (htab.ext hX))
    clear ih hd hK ho hks hSL htab e3
    have hx0 : Ext W (W.alloc (.cells #[.int .i64 dk, .int .i64 dn, .string ds, .slice dA ks.length dc] 31)) := (Ext.refl W).alloc _
    have hna : NX (W.alloc (.cells #[.int .i64 dk, .int .i64 dn, .string ds, .slice dA ks.length dc] 31)) W.heap.size dk dn ds (.slice dA ks.length dc) := heap_alloc_new _ _
    go_enter Tryz.func30, Tryz.ntmps30
    go_upto_region 1 with (fail)
    have HX0 := Lib.hid hx0
    have HNA := Lib.hid hna
    generalize W.alloc (.cells #[.int .i64 dk, .int .i64 dn, .string ds, .slice dA ks.length dc] 31) = w1 at *
    generalize W.heap.size = g at *
    clear hx0 hna
    obtain ⟨_, k0, k1, k2, k3, _, _, _, _⟩ := HNA.out.nb
    go_upto_region 3 with (first | (go_at_call 29; refine (HOC.out _ HX0.out).mono ?_; rintro e w2 ⟨rfl, hx2⟩))
    have HX2 := Lib.hid (HX0.out.trans hx2)
    have HNB := Lib.hid (HNA.out.mv (b := g + 1) (Mv.of_ext hx2) (by omega))
    clear hx2 k0 k1 k2 k3
    go_wp2_with fail
    go_loopw [5] (fun s5 X => KnRel w2 ks.length s5 X) (fun s5 _ => toM ks.length s5)
    case atStart => exact ⟨0, Nat.zero_le _, rfl, Ext.refl _⟩
    case round =>
      obtain ⟨i, hi, rfl, hx⟩ := hrel
      have HX := Lib.hid (HX2.out.trans hx)
      have HXR := Lib.hid hx
      obtain ⟨_, k0, k1, k2, k3, _, _, _, _⟩ := (HNB.out.mv (b := g + 1) (Mv.of_ext hx) (by omega)).nb
      clear hx
      by_cases hlt : i < ks.length
      · have hI1 : (i : Int) < (ks.length : Int) := by omega
        obtain ⟨g1, o1, d1, t1, hA1, hg1, ht1, hm1, hr1, p0, p1, p2, p3⟩ := (HD.out.ext HX.out).kid hlt
        simp only at hA1
        rw [hA1] at k3
        have hs1 := tsz_mem hm1
        have HC := Lib.hid (HIH.out t1 d1 P wr (by omega) (by omega) hr1 (HKS.out t1 hm1) (HSL.out.ext HX.out) (HTB.out.ext HX.out))
        clear hA1 ht1 hm1 hr1
        go_wp2_with (first | (go_at_call 30; refine (HC.out).mono ?_; rintro e w5 ⟨rfl, hx5⟩))
        exact ⟨⟨i + 1, by omega, by simp, HXR.out.trans hx5⟩, by simp only [toM]; omega⟩
      · obtain rfl : i = ks.length := by omega
        have hni : ¬ ((ks.length : Int) < (ks.length : Int)) := by omega
        go_wp2
        go_ret
        exact ⟨rfl, HX.out⟩
end Go.Proofs.YtnpenepdechkjaaGreatDoor
