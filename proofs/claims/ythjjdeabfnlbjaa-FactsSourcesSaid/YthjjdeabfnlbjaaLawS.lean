/- The walk of the law FactsSources. -/
import Derived.Test.YthjjdeabfnlbjaaLaw
namespace Go.Proofs.Ythjjdeabfnlbjaa
open Go Go.RowKit

def srcB (op : Int) (f : Fc) (v : Vr) : Bool := decide (v.op ≤ op) && (!v.st && decide (v.fc = f))
theorem src_found {L : List Vr} {op : Int} {m : List Fc} (h : IsAt L op m) {i : Nat} (hi : i < m.length) : L.any (srcB op (fat m i)) = true := by
  obtain ⟨v, h1, h2, h3⟩ := (h.mem (fat m i)).1 (fat_mem hi)
  have h4 := List.mem_filter.1 (lastOf_some h1).1
  refine List.any_eq_true.2 ⟨v, h4.1, ?_⟩
  have h5 := of_decide_eq_true h4.2
  simp [srcB, h5, h2, h3]
theorem src_ord {L : List Vr} {op : Int} {m : List Fc} (h : IsAt L op m) {i j : Nat} (hj : j < i) (hi : i < m.length) : (fat m j).en < (fat m i).en := by
  have := List.pairwise_iff_getElem.1 h.sorted j i (by omega) hi hj
  simpa [fat, hi, show j < m.length by omega] using this
theorem src_step {L : List Vr} {k : Nat} (hk : k < L.length) (p : Vr → Bool) : (L.take (k + 1)).any p = ((L.take k).any p || p (vat L k)) := by
  rw [take_vat hk]; simp
def SrcRel (L : List Vr) (op : Int) (f : Fc) (w : World) (s8 s9 : Value) (wx : World) : Prop := ∃ k : Nat, k ≤ L.length ∧ s8 = .bool ((L.take k).any (srcB op f)) ∧ s9 = .int .i64 k ∧ Ext w wx
def SrcOut (n : Nat) (w : World) (s7 : Value) (wx : World) : Prop := ∃ i : Nat, i ≤ n ∧ s7 = .int .i64 i ∧ Ext w wx

set_option maxRecDepth 100000 in
set_option maxHeartbeats 2000000 in
theorem sources_walk (A : Option Addr) (n c : Nat) (f : Nat → Int) (op : Int) (w : World) (hn : n ≤ maxLen) (hnc : n ≤ c) (hcm : c ≤ maxLen) (h : SI w w.heap.size A n f) :
    Calls Try.prog 7 #[.slice A n c, .int .i64 op] w fun e w' => e = .returned (.bool true) ∧ Ext w w' := by
  have HS := Lib.hid h; clear h
  go_enter Try.func7, Try.ntmps7
  go_wp2_with fail
  refine (vs_any A n c f w _ hn hnc hcm HS.out (Ext.refl _)).mono ?_
  rintro e w1 ⟨L, A1, c1, top, rfl, hv, hg, _, _, hx1⟩
  have HV := Lib.hid hv
  have hL := hv.n40
  clear hv hg HS
  go_wp2_with fail
  refine (HV.out.at20 op _ (Ext.refl _)).mono ?_
  rintro e w2 ⟨A2, c2, rfl, hl2, hs2, hx2⟩
  have hat := atL_at L op
  generalize atL L op = m at hat hl2 hs2 ⊢
  have HAT := Lib.hid hat
  have HS2 := Lib.hid hs2
  have HX := Lib.hid (hx1.trans hx2)
  have HSV := Lib.hid (HV.out.at_ hx2)
  clear hat hs2 hx1 hx2 HV
  go_wp2
  go_loopw [7] (fun i wr => SrcOut m.length w2 i wr) (fun i _ => refM m.length i)
  case atStart => exact ⟨0, Nat.zero_le _, rfl, Ext.refl _⟩
  case round =>
    obtain ⟨i, hi, rfl, hx⟩ := hrel
    by_cases hlt : i < m.length
    · have hlt' : (i : Int) < m.length := by omega
      go_wp2
      go_loopw [8, 9] (fun s8 s9 wx => SrcRel L op (fat m i) w2 s8 s9 wx) (fun _ s9 _ => refM L.length s9)
      case atStart => exact ⟨0, Nat.zero_le _, by simp, rfl, hx⟩
      case round =>
        clear hx
        obtain ⟨k, hk, rfl, rfl, hx⟩ := hrel
        obtain ⟨b', off', rfl, hb', d0, d1, d2, d3, d4, d5⟩ := SF.at_ (SF.lift HS2.out (Nat.le_refl _) hx) (k := i) hlt
        by_cases hlt2 : k < L.length
        · have hlt3 : (k : Int) < L.length := by omega
          obtain ⟨b, off, rfl, hb, c0, c1', c2', c3, c4, c5, c6, c7⟩ := SV.at_ (SV.lift HSV.out (Nat.le_refl _) hx) (k := k) hlt2
          have hst := src_step hlt2 (srcB op (fat m i))
          have HST := Lib.hid hst; clear hst
          cases hf : (L.take k).any (srcB op (fat m i))
          · cases ho : decide ((vat L k).op ≤ op)
            · have hn1 : (L.take (k + 1)).any (srcB op (fat m i)) = false := by rw [HST.out, hf]; simp [srcB, ho]
              have HN := Lib.hid hn1; clear hn1 hf
              go_wp2
              go_quiet (fail)
              go_wp2
              have HREL := Lib.hid (show SrcRel L op (fat m i) w2 (.bool false) (.int .i64 ((k : Int) + 1)) (wr.drewN nq) from ⟨k + 1, by omega, by rw [HN.out], rfl, hx.drewN _⟩)
              first | exact ⟨HREL.out, refM_lt hlt2⟩ | (refine ⟨?_, refM_lt hlt2⟩; (repeat apply Exists.intro); refine ⟨?_, rfl⟩; exact HREL.out)
            · cases hs : (vat L k).st
              · rw [hs] at c1'
                have hcmp := fun W => eqF (vat L k).fc (fat m i) W
                cases hd : decide ((vat L k).fc = fat m i)
                · have hn1 : (L.take (k + 1)).any (srcB op (fat m i)) = false := by rw [HST.out, hf]; simp only [srcB, ho, hs, hd]; rfl
                  have HN := Lib.hid hn1; clear hn1 hf
                  rw [hd] at hcmp
                  clear hd
                  go_wp2
                  go_quiet (fail)
                  go_wp2
                  have HREL := Lib.hid (show SrcRel L op (fat m i) w2 (.bool false) (.int .i64 ((k : Int) + 1)) (wr.drewN nq) from ⟨k + 1, by omega, by rw [HN.out], rfl, hx.drewN _⟩)
                  first | exact ⟨HREL.out, refM_lt hlt2⟩ | (refine ⟨?_, refM_lt hlt2⟩; (repeat apply Exists.intro); refine ⟨?_, rfl⟩; exact HREL.out)
                · have hn1 : (L.take (k + 1)).any (srcB op (fat m i)) = true := by rw [HST.out, hf]; simp only [srcB, ho, hs, hd]; rfl
                  have HN := Lib.hid hn1; clear hn1 hf
                  rw [hd] at hcmp
                  clear hd
                  go_wp2
                  go_quiet (fail)
                  go_wp2
                  have HREL := Lib.hid (show SrcRel L op (fat m i) w2 (.bool true) (.int .i64 ((k : Int) + 1)) (wr.drewN nq) from ⟨k + 1, by omega, by rw [HN.out], rfl, hx.drewN _⟩)
                  first | exact ⟨HREL.out, refM_lt hlt2⟩ | (refine ⟨?_, refM_lt hlt2⟩; (repeat apply Exists.intro); refine ⟨?_, rfl⟩; exact HREL.out)
              · rw [hs] at c1'
                have hn1 : (L.take (k + 1)).any (srcB op (fat m i)) = false := by rw [HST.out, hf]; simp [srcB, hs]
                have HN := Lib.hid hn1; clear hn1 hf
                go_wp2
                go_quiet (fail)
                go_wp2
                have HREL := Lib.hid (show SrcRel L op (fat m i) w2 (.bool false) (.int .i64 ((k : Int) + 1)) (wr.drewN nq) from ⟨k + 1, by omega, by rw [HN.out], rfl, hx.drewN _⟩)
                first | exact ⟨HREL.out, refM_lt hlt2⟩ | (refine ⟨?_, refM_lt hlt2⟩; (repeat apply Exists.intro); refine ⟨?_, rfl⟩; exact HREL.out)
          · have hn1 : (L.take (k + 1)).any (srcB op (fat m i)) = true := by rw [HST.out, hf]; rfl
            have HN := Lib.hid hn1; clear hn1 hf
            go_wp2
            go_quiet (fail)
            go_wp2
            have HREL := Lib.hid (show SrcRel L op (fat m i) w2 (.bool true) (.int .i64 ((k : Int) + 1)) (wr.drewN nq) from ⟨k + 1, by omega, by rw [HN.out], rfl, hx.drewN _⟩)
            first | exact ⟨HREL.out, refM_lt hlt2⟩ | (refine ⟨?_, refM_lt hlt2⟩; (repeat apply Exists.intro); refine ⟨?_, rfl⟩; exact HREL.out)
        · obtain rfl : k = L.length := by omega
          have hf := src_found HAT.out hlt
          rw [List.take_length, hf]
          clear hf
          by_cases h0 : i = 0
          · subst h0
            have hz : decide ((0 : Int) < ((0 : Nat) : Int)) = false := by decide
            go_wp2
            go_quiet (fail)
            go_wp2
            have HREL := Lib.hid (show SrcOut m.length w2 (.int .i64 (((0 : Nat) : Int) + 1)) (wr.drewN nq) from ⟨0 + 1, by omega, rfl, hx.drewN _⟩)
            first | exact ⟨HREL.out, refM_lt hlt⟩ | (refine ⟨?_, refM_lt hlt⟩; (repeat apply Exists.intro); refine ⟨?_, rfl⟩; exact HREL.out)
          · have hord := src_ord HAT.out (show i - 1 < i by omega) hlt
            obtain ⟨_, _, ee, _, e0, e1, e2, e3, e4, e5⟩ := SF.at_ (SF.lift HS2.out (Nat.le_refl _) hx) (k := i - 1) (by omega)
            injection ee with ee; injection ee with ee1 ee2
            subst ee1; subst ee2
            have hz : decide ((0 : Int) < (i : Int)) = true := by rw [decide_eq_true_eq]; omega
            have hz2 : decide (0 < i) = true := by rw [decide_eq_true_eq]; omega
            have hw1 : IntKind.i64.wrap ((i : Int) - 1) = (i : Int) - 1 := IntWalk.i64_in _ (by omega)
            have hw2 : (0 : Int) ≤ (i : Int) - 1 := by omega
            have hw3 : ((i : Int) - 1).toNat = i - 1 := by omega
            have hw4 : (i : Int) - 1 < m.length := by omega
            have hdd : decide ((fat m i).en ≤ (fat m (i - 1)).en) = false := decide_eq_false (by omega)
            clear hord
            go_wp2
            go_quiet (fail)
            go_wp2
            have HREL := Lib.hid (show SrcOut m.length w2 (.int .i64 ((i : Int) + 1)) (wr.drewN nq) from ⟨i + 1, by omega, rfl, hx.drewN _⟩)
            first | exact ⟨HREL.out, refM_lt hlt⟩ | (refine ⟨?_, refM_lt hlt⟩; (repeat apply Exists.intro); refine ⟨?_, rfl⟩; exact HREL.out)
    · obtain rfl : i = m.length := by omega
      go_wp2_with fail
      refine (lives_any _).mono ?_
      rintro e w3 ⟨rfl, hx3⟩
      go_wp2
      go_ret
      exact ⟨rfl, HX.out.trans (hx.trans hx3)⟩
end Go.Proofs.Ythjjdeabfnlbjaa
