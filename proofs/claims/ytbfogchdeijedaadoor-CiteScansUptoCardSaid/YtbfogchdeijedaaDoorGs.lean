/- The contract of ref.Scan. -/
import Derived.Test.YtbfogchdeijedaaDoorGu
import Derived.Test.YtbfogchdeijedaaDoorRp
namespace Go.Proofs.YtbfogchdeijedaaDoor
open Go Go.RowKit

def CutWas (W : World) (v s4 : Value) (wx : World) : Prop := s4 = v ∧ wx = W
set_option maxHeartbeats 4000000 in
set_option maxRecDepth 100000 in
theorem rscan_any (W : World) (A1 A2 : Option Addr) (c1 c2 : Nat) (l1 l2 : List Sl) (ll : List (List Wd)) (h1 : SL slc 1 W A1 l1.length l1) (h2 : SL slc 1 W A2 l2.length l2) (hl1 : l1.length ≤ 10000) (hl2 : l2.length ≤ 10000)
    (hT : TX W (l1 ++ l2) ll) (hout : (scanP ll).length ≤ 1000000) (hE : ∀ l ∈ ll, ∀ w ∈ l, w.s.size ≤ 4000000) :
    Calls Tryd.prog 17 #[.agg #[.slice A1 l1.length c1, .slice A2 l2.length c2]] W (ScanPost W (scanP ll)) := by
  have HT := Lib.hid hT
  have HE := Lib.hid hE
  have HO := Lib.hid hout
  have H1 := Lib.hid h1
  have H2 := Lib.hid h2
  have HL1 := Lib.hid hl1
  have HL2 := Lib.hid hl2
  clear h1 h2 hl1 hl2 hT hout hE
  go_enter Tryd.func17, Tryd.ntmps17
  go_upto_region 3 with (fail)
  obtain ⟨W0, hW0⟩ : ∃ W0, W0 = (W.alloc (.cells #[.slice A1 l1.length c1, .slice A2 l2.length c2] 42)).drew := ⟨_, rfl⟩
  have hx0 : Ext W W0 := by rw [hW0]; exact ((Ext.refl W).alloc _).drew
  have b0 : W0.cell? ⟨W.heap.size, 0, none⟩ = some (.slice A1 l1.length c1) := by rw [hW0]; go_simp
  have b1 : W0.cell? ⟨W.heap.size, 1, none⟩ = some (.slice A2 l2.length c2) := by rw [hW0]; go_simp
  have hlt0 : W.heap.size < W0.heap.size := by rw [hW0]; simp [World.drew]
  obtain ⟨A5, c5, w5, r5, o5, k5, _⟩ := ap40 (OL.nil (cf := slc) (sz := 1) W0 W0.heap.size 44) (H1.out.ext hx0) c1 (by have := HL1.out; simp; omega) (Nat.le_refl _)
  have hx5 : Ext W0 w5 := k5 _ (Nat.le_refl _)
  simp only [List.length_nil, Nat.zero_add, List.nil_append] at r5 o5
  obtain ⟨A6, c6, w6, r6, o6, k6, _⟩ := ap40 o5 (H2.out.ext (hx0.trans hx5)) c2 (by have := HL1.out; have := HL2.out; omega) hx5.lt
  have hx6 : Ext W0 w6 := Below.trans hx5 (k6 _ (Nat.le_refl _))
  have b15 : w5.cell? ⟨W.heap.size, 1, none⟩ = some (.slice A2 l2.length c2) := by rw [hx5.cells.1 _ _ hlt0]; exact b1
  have R5 := Lib.hid r5
  have R6 := Lib.hid r6
  have HXW := Lib.hid (hx0.trans hx6)
  have HTX := Lib.hid (HT.out.ext (hx0.trans hx6))
  have HS := Lib.hid (show SL slc 1 w6 A6 (l1.length + l2.length) (l1 ++ l2) from by
    obtain ⟨A9, c9, e9, _, hs9⟩ := OL.form slc_len o6
    simp only [Value.slice.injEq] at e9
    obtain ⟨rfl, _, rfl⟩ := e9
    rw [List.length_append] at hs9
    exact hs9)
  clear r5 r6 o5 o6 k5 k6 hx5 hx6 hx0 hlt0
  rw [hW0] at R5 b0 b1
  clear hW0
  go_cut [4] (fun s4 wx => CutWas w6 (.slice A6 (l1.length + l2.length) c6) s4 wx)
  case first =>
    go_region_law (first
      | (refine step_append_run (s := .tmp 9) (x := .tmp 11) R5.out rfl rfl rfl rfl rfl ?_)
      | (refine step_append_run (s := .tmp 12) (x := .tmp 14) R6.out rfl rfl rfl rfl rfl ?_))
    all_goals
      go_wp2_with fail
      go_meet
      case rel => exact ⟨rfl, rfl⟩
  case rest =>
    obtain ⟨rfl, rfl⟩ := hcut
    clear R5 R6 b0 b1 b15
    go_wp2_with fail
    go_loopw [3, 5] (fun s3 s17 w' => OutRel wc ll (l1.length + l2.length) s3 s17 w') (fun _ s17 _ => toM (l1.length + l2.length) s17)
    case atStart => exact ⟨0, none, 0, by omega, rfl, rfl, OL.nil _ _ _, Ext.refl _⟩
    case round =>
      obtain ⟨i, A3, c3, hi, rfl, rfl, ho, hxr⟩ := hrel
      have HOL := Lib.hid ho
      have HXR := Lib.hid hxr
      clear ho hxr
      by_cases hin : i < l1.length + l2.length
      · obtain ⟨b, off, s, rfl, hb, hps, _, hcs⟩ := SL.at (HS.out.ext HXR.out) (k := i) (by simpa using hin)
        obtain ⟨l, hll⟩ : ∃ l, ll[i]? = some l := ⟨_, List.getElem?_eq_getElem (by have := HT.out.1; simp at this; omega)⟩
        obtain ⟨hSw, hlen, hsz⟩ := HTX.out.2 i s l hps hll
        have hc0 := hcs 0 s.val rfl
        rw [Nat.mul_one, Nat.add_zero] at hc0
        obtain ⟨sA, sn, sc⟩ := s
        have HSW := Lib.hid hSw
        have HLL := Lib.hid hll
        have HSZ := HE
        have HST := Lib.hid (scanP_step ll i l hll)
        have hsn : sn = l.length := hSw.1
        have HSN := Lib.hid hsn
        have hsn2 : sn ≤ 100000 := by omega
        simp only [Sl.val] at hc0
        have HC := Lib.hid (fun X (hX : Ext wc X) => (show X.cell? ⟨b, off + i, none⟩ = some (.slice sA sn sc) from by
          obtain ⟨b', off', s', e', _, hps', _, hcs'⟩ := SL.at (HS.out.ext hX) (k := i) (by simpa using hin)
          simp only [Option.some.injEq, Addr.mk.injEq] at e'
          obtain ⟨rfl, rfl, _⟩ := e'
          obtain rfl := Option.some.inj (hps.symm.trans hps')
          have := hcs' 0 _ rfl
          rw [Nat.mul_one, Nat.add_zero] at this
          exact this))
        have hsum : (scanP (ll.take i)).length ≤ 1000000 := by
          refine Nat.le_trans ?_ HO.out
          have e : scanP ll = scanP (ll.take i) ++ scanP (ll.drop i) := by unfold scanP; rw [← List.flatMap_append, List.take_append_drop]
          rw [e, List.length_append]; omega
        have hi3 : (i : Int) ≤ 20000 := by have := HL1.out; have := HL2.out; omega
        generalize scanP (ll.take i) = out at *
        clear hcs hps hll hSw hlen hsz hsn
        have hi2 : (i : Int) < (l1.length : Int) + (l2.length : Int) := by omega
        go_wp2_with fail
        go_loopw [3, 6] (fun s3 s23 w' => InRel wc out l sn s3 s23 w') (fun _ s23 _ => toM sn s23)
        case atStart => exact ⟨0, A3, c3, by omega, rfl, by simp [scanW], by simpa [scanW] using HOL.out, HXR.out⟩
        case round =>
          obtain ⟨k, A4, c4, hk, rfl, rfl, ho4, hxr4⟩ := hrel
          have HOL4 := Lib.hid ho4
          have HXR4 := Lib.hid hxr4
          have hcc := HC.out _ hxr4
          clear ho4 hxr4
          by_cases hkn : k < sn
          · obtain ⟨b2, off2, wd, rfl, hb2, hwk, hwm, hwc⟩ := SL.at (HSW.out.ext (HXR4.out)) hkn
            have hwsz := HSZ.out l (List.mem_of_getElem? HLL.out) wd hwm
            have d0 := hwc 0 (.string wd.s) rfl
            have d1 := hwc 1 (.string wd.key) rfl
            have d2 := hwc 2 (.int .i64 wd.tb) rfl
            have d3 := hwc 3 (.int .i64 wd.nt) rfl
            rw [Nat.add_zero] at d0
            have hstep := scanW_step l k wd hwk
            have hk2 : (k : Int) < (sn : Int) := by omega
            have hk3 : (k : Int) ≤ 100000 := by omega
            have hlk : (scanW (l.take k)).length ≤ 100000 := Nat.le_trans (scanW_len _) (by rw [List.length_take]; omega)
            rcases parse_cases wd.s.data.toList with (hp | hp) | ⟨c, hp, hcb⟩
            · have HP := Lib.hid (show ∀ X, Ext wr X → Calls Tryd.prog 13 #[.string wd.s] X (fun e X' => e = .returned (.tuple #[.agg #[.int .i64 0, .int .i64 0, .int .i64 0, .int .i64 0], .int .i64 7]) ∧ Ext X X') from fun X hX => by
                have := rparse_any wd.s X hwsz; rw [hp] at this; exact this)
              have HSTEP := Lib.hid (show scanW (l.take (k + 1)) = scanW (l.take k) by rw [hstep, hp]; simp)
              clear hstep hp hwc hwm hwk hwsz
              go_wp2_with (first | (go_at_call 13; refine (HP.out _ ?_).mono ?_; exact Ext.refl _; rintro e w4 ⟨rfl, hx4⟩))
              exact ⟨⟨k + 1, A4, c4, by omega, rfl, by rw [HSTEP.out], by rw [HSTEP.out]; exact HOL4.out.ext (hx4.alloc _), HXR4.out.trans (hx4.alloc _)⟩, by simp [toM]; omega⟩
            · have HP := Lib.hid (show ∀ X, Ext wr X → Calls Tryd.prog 13 #[.string wd.s] X (fun e X' => e = .returned (.tuple #[.agg #[.int .i64 0, .int .i64 0, .int .i64 0, .int .i64 0], .int .i64 5]) ∧ Ext X X') from fun X hX => by
                have := rparse_any wd.s X hwsz; rw [hp] at this; exact this)
              have HSTEP := Lib.hid (show scanW (l.take (k + 1)) = scanW (l.take k) by rw [hstep, hp]; simp)
              clear hstep hp hwc hwm hwk hwsz
              go_wp2_with (first | (go_at_call 13; refine (HP.out _ ?_).mono ?_; exact Ext.refl _; rintro e w4 ⟨rfl, hx4⟩))
              exact ⟨⟨k + 1, A4, c4, by omega, rfl, by rw [HSTEP.out], by rw [HSTEP.out]; exact HOL4.out.ext (hx4.alloc _), HXR4.out.trans (hx4.alloc _)⟩, by simp [toM]; omega⟩
            · have HP := Lib.hid (show ∀ X, Ext wr X → Calls Tryd.prog 13 #[.string wd.s] X (fun e X' => e = .returned (.tuple #[.agg #[.int .i64 c.br, .int .i64 c.nu, .int .i64 c.su, .int .i64 c.li], .int .i64 0]) ∧ Ext X X') from fun X hX => by
                have := rparse_any wd.s X hwsz; rw [hp] at this; exact this)
              have HSTEP := Lib.hid (show scanW (l.take (k + 1)) = scanW (l.take k) ++ [c] by rw [hstep, hp]; simp)
              have hli := (citB_cases hcb).2.2.1
              have hli2 : (c.li == 0) = false := by simpa using (show ¬ c.li = 0 by omega)
              clear hstep hp hwc hwm hwk hwsz hcb
              go_upto_region 12 with (first | (go_at_call 13; refine (HP.out _ ?_).mono ?_; exact Ext.refl _; rintro e w4 ⟨rfl, hx4⟩))
              have hle4 : wc.heap.size ≤ w4.heap.size := Nat.le_trans HXR4.out.lt (Nat.le_trans hx4.lt (Nat.le_refl _))
              obtain ⟨A5, c5, w5, hrun, ho5, hb5⟩ := app47_one (w4.alloc (.cells #[.int .i64 c.br, .int .i64 c.nu, .int .i64 c.su, .int .i64 c.li] 25)) (HOL4.out.ext (hx4.alloc _)) c (w4.heap.size + 1) (by simp) (by rw [List.length_append]; omega) (by simp; omega)
              rw [List.length_append] at hrun ho5
              have HO5 := Lib.hid ho5
              have HB5 := Lib.hid hb5
              clear ho5 hb5
              go_wp2_with (first | (at_builtin; refine wpList_append_run (s := .tmp 45) (x := .tmp 47) hrun rfl rfl rfl rfl rfl ?_))
              refine ⟨⟨k + 1, A5, c5, by omega, rfl, by rw [HSTEP.out, List.length_append, List.length_singleton, Nat.add_assoc], by rw [HSTEP.out, ← List.append_assoc]; exact HO5.out, ?_⟩, by simp [toM]; omega⟩
              exact Below.trans (HXR4.out.trans (hx4.alloc _)) HB5.out
          · have hni : ¬ ((k : Int) < (sn : Int)) := by omega
            go_wp2_with fail
            have hkl : l.take k = l := List.take_of_length_le (by have := HSN.out; omega)
            refine ⟨⟨i + 1, A4, c4, by omega, rfl, by rw [HST.out, hkl, List.length_append], by rw [HST.out]; have := HOL4.out; rw [hkl] at this; rw [hkl]; exact this, HXR4.out⟩, by simp [toM]; omega⟩
      · have hni : ¬ ((i : Int) < (l1.length : Int) + (l2.length : Int)) := by omega
        go_wp2_with fail
        go_ret
        have hall : ll.take i = ll := List.take_of_length_le (by have := HT.out.1; simp at this; omega)
        have hol := HOL.out
        rw [hall] at hol ⊢
        obtain ⟨A9, c9, e9, _, hs9⟩ := OL.form ccf_len hol
        injection e9 with e1 e2 e3
        subst e1 e3
        exact ⟨A3, c3, rfl, hs9, HXW.out.trans HXR.out⟩
end Go.Proofs.YtbfogchdeijedaaDoor
