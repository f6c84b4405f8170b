/- The walk of the law FactsLocal. -/
import Derived.Test.YthjjdeabfnlbjaaLaw
import Derived.Test.YthjjdeabfnlbjaaPlain7
namespace Go.Proofs.Ythjjdeabfnlbjaa
open Go Go.RowKit Go.WideShapes

theorem wf_in {a : Int} (h : (Lit.int .i64 a).wf = true) : -9223372036854775808 ≤ a ∧ a ≤ 9223372036854775807 := by
  simp only [Lit.wf, Bool.and_eq_true, decide_eq_true_eq] at h
  exact h
theorem hist_fact {w1 : World} {A : Option Addr} {c : Nat} {L : List Vr} (h : Vs w1 A c L) (en : Int) : ∀ k, k < (histL L en).length → okF (vat (histL L en) k).fc = true ∧ 0 ≤ (vat (histL L en) k).fc.en ∧ (vat (histL L en) k).fc.en ≤ 5 := fun k hk => by
  obtain ⟨j, hj, e⟩ := mem_vat (List.mem_filter.1 (vat_mem hk)).1
  have e' : vat L j = vat (histL L en) k := e
  rw [← e']
  exact h.fact j hj
def ownL (m : List Fc) (en : Int) : List Fc := m.filter fun f => decide (f.en = en)
theorem own_at {L : List Vr} {op en : Int} {m : List Fc} (h : IsAt (histL L en) op m) : m = ownL (atL L op) en := h.unique (isAt_hist (atL_at L op))

set_option maxRecDepth 100000 in
set_option maxHeartbeats 2000000 in
theorem local_walk (A : Option Addr) (n c : Nat) (f : Nat → Int) (op en : Int) (w : World) (he1 : -9223372036854775808 ≤ en) (he2 : en ≤ 9223372036854775807) (hn : n ≤ maxLen) (hnc : n ≤ c) (hcm : c ≤ maxLen) (h : SI w w.heap.size A n f) :
    Calls Try.prog 11 #[.slice A n c, .int .i64 op, .int .i64 en] w fun e w' => e = .returned (.bool true) ∧ Ext w w' := by
  have HS := Lib.hid h; clear h
  go_enter Try.func11, Try.ntmps11
  go_wp2_with fail
  refine (vs_any A n c f w _ hn hnc hcm HS.out (Ext.refl _)).mono ?_
  rintro e w1 ⟨L, A1, c1, top, rfl, hv, hg, _, _, hx1⟩
  have HV := Lib.hid hv
  have HX1 := Lib.hid hx1
  have hL := hv.n40
  clear hv hg hx1 HS
  go_wp2_with fail
  refine (around_any en 6 _ he1 he2 (by omega) (by omega)).mono ?_
  rintro e w2 ⟨r, rfl, hr1, hr2, rfl⟩
  have hhl : (histL L r).length ≤ 40 := Nat.le_trans (List.length_filter_le _ _) hL
  have hck : checkOf (histL L r) = 0 := check_hist r L HV.out.ok
  have hff := hist_fact HV.out r
  have hown : ∀ m, IsAt (histL L r) op m → m = ownL (atL L op) r := fun m h => own_at h
  have hle : (ownL (atL L op) r).length ≤ 1 := own_le (atL_at L op).sorted r
  have HCK := Lib.hid hck
  have HFF := Lib.hid hff
  have HOWN := Lib.hid hown
  clear hck hff hown
  go_wp2_with fail
  refine (HV.out.hist24 r _ (Ext.refl _)).mono ?_
  rintro e w3 ⟨A3, c3, rfl, hs3, hx3⟩
  have HS3 := Lib.hid hs3
  have HX3 := Lib.hid hx3
  clear hs3 hx3
  go_wp2_with fail
  refine (HV.out.at20 op _ HX3.out).mono ?_
  rintro e w4 ⟨A4, c4, rfl, hl4, hs4, hx4⟩
  have HS4 := Lib.hid hs4
  have HY := Lib.hid (HX1.out.trans (HX3.out.trans hx4))
  have HS3' := Lib.hid (SV.lift HS3.out (Nat.le_refl _) hx4)
  clear hs4 hx4 HS3 HX1 HX3 HV
  revert hhl hl4 hle HS3' HS4 HFF HOWN HCK
  generalize histL L r = hh
  generalize atL L op = m
  intro hhl hle HCK HFF HOWN hl4 HS4 HS3'
  go_wp2
  go_loopw [11, 12] (fun o i wr => ∃ (k : Nat) (M : List Fc) (A' : Option Addr) (c' : Nat), k ≤ m.length ∧ o = .slice A' M.length c' ∧ i = .int .i64 k ∧ M = ownL (m.take k) r ∧ OF wr w4.heap.size (.slice A' M.length c') M ∧ Ext w4 wr) (fun _ i _ => m.length - (intOf i).toNat)
  case atStart => exact ⟨0, [], none, 0, Nat.zero_le _, rfl, rfl, rfl, OF.nil _ _, Ext.refl _⟩
  case round =>
    obtain ⟨k, M, A', c', hk, rfl, rfl, hM, hown, hx⟩ := hrel
    have HM := Lib.hid hM
    have hll : M.length ≤ m.length := by rw [hM]; exact ffl_len _ _ _
    have HO := Lib.hid hown; clear hown hM
    by_cases hlt : k < m.length
    · have hlt' : (k : Int) < m.length := by omega
      obtain ⟨b, off, rfl, hb, d0, d1, d2, d3, d4, d5⟩ := SF.at_ (SF.lift HS4.out (Nat.le_refl _) hx) (k := k) hlt
      by_cases he : (fat m k).en = r
      · have hM2 : M ++ [fat m k] = ownL (m.take (k + 1)) r := by unfold ownL; rw [ftake_succ hlt, HM.out]; simp [he, ownL]
        have HM2 := Lib.hid hM2; clear hM2
        have he' : ((fat m k).en == r) = true := by simpa using he
        obtain ⟨A2, c2, w5, hrun, hown3, hb3, hk3⟩ := (HO.out.alloc (.cells #[.int .i64 (fat m k).en, .string (fat m k).kd, .int .i64 (fat m k).day, .int .i64 (fat m k).byy, .int .i64 (fat m k).too, .int .i64 (fat m k).am] 30)).append (SF.one wr (fat m k) 30) 1 (by omega) (le_alloc hx.lt _)
        have hx3 : Ext w4 w5 := Below.trans (hx.alloc _) (hb3 _ (Nat.le_refl _))
        have hown4 : OF w5 w4.heap.size (.slice A2 (M ++ [fat m k]).length c2) (M ++ [fat m k]) := by simpa using hown3
        have HO2 := Lib.hid hown4
        have HX := Lib.hid hx3
        clear hown3 hb3 hk3 hown4 hx3 he
        go_wp2_with (first | (at_builtin; refine wpList_append_run (s := .tmp 36) (x := .tmp 41) hrun rfl rfl rfl rfl rfl ?_))
        exact ⟨⟨k + 1, M ++ [fat m k], A2, c2, by omega, by simp, by go_num, HM2.out, HO2.out, HX.out⟩, by simp [intOf]; omega⟩
      · have hM2 : M = ownL (m.take (k + 1)) r := by unfold ownL; rw [ftake_succ hlt, HM.out]; simp [he, ownL]
        have HM2 := Lib.hid hM2; clear hM2
        have he' : ((fat m k).en == r) = false := by simpa using he
        have HE := Lib.hid he; clear he
        go_wp2
        exact ⟨⟨k + 1, M, A', c', by omega, rfl, by go_num, HM2.out, HO.out, hx⟩, by simp [intOf]; omega⟩
    · obtain rfl : k = m.length := by omega
      have hM2 := HM.out
      rw [List.take_length] at hM2
      have HM2 := Lib.hid hM2
      have hM1 : M.length ≤ 1 := by rw [hM2]; exact hle
      have hM3 : decide ((M.length : Int) ≤ 1) = true := by rw [decide_eq_true_eq]; omega
      have hsf := HO.out.sf
      have HSF := Lib.hid hsf
      clear hM2 hsf HM HO hle
      go_wp2_with fail
      refine (check_any A3 _ c3 hh _ (by omega) (SV.lift HS3'.out (Nat.le_refl _) hx) (fun j hj => by have := okF_size (HFF.out j hj).1; simp only [maxLen]; omega)).mono ?_
      rintro e w6 ⟨rfl, hx6⟩
      rw [HCK.out]
      have HX6 := Lib.hid hx6
      clear hx6
      go_wp2_with fail
      refine (at_any A3 _ c3 hh op _ (by omega) (SV.lift HS3'.out (Nat.le_refl _) (hx.trans HX6.out)) (fun j hj => (HFF.out j hj).2)).mono ?_
      rintro e w7 ⟨m7, A7, c7, rfl, hat, hl7, ho7, hx7⟩
      have hm7 : m7 = M := by rw [HOWN.out m7 hat, HM2.out]
      have hs7 := ho7.sf
      subst hm7
      clear hat ho7
      go_wp2_with fail
      refine (sameF_eq _ A7 A' c7 c' _ _ hs7 (SF.lift HSF.out (Nat.le_refl _) (HX6.out.trans hx7)) (by omega) (by omega) rfl).mono ?_
      rintro e w8 ⟨rfl, hx8⟩
      have HX8 := Lib.hid (HY.out.trans (hx.trans (HX6.out.trans (hx7.trans hx8))))
      clear hx7 hx8 hs7
      go_wp2_with fail
      refine (lives_any _).mono ?_
      rintro e w9 ⟨rfl, hx9⟩
      go_wp2
      go_ret
      exact ⟨rfl, HX8.out.trans hx9⟩
end Go.Proofs.Ythjjdeabfnlbjaa
