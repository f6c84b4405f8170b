/- The law IndexPlaces: walked (printed by genzo.py). -/
import Derived.Test.YtdbnddmncbjobaaGreatDoorQbq
namespace Go.Proofs.YtdbnddmncbjobaaGreatDoor
open Go Go.RowKit
attribute [local go_sem] Oper.semAt_some

def PcR (w4 : World) (n : Nat) (s8 : Value) (W : World) : Prop := ∃ i : Nat, i ≤ n ∧ s8 = .int .i64 i ∧ Ext w4 W
set_option maxHeartbeats 8000000 in
set_option maxRecDepth 100000 in
theorem places_law (A A' : Option Addr) (c c' : Nat) (l l' : List Int) (br tb : Int) (w : World) (h : IL w A c l) (hl : l.length ≤ 9223372036854775807) (h' : IL w A' c' l') (hl' : l'.length ≤ 9223372036854775807)
    (htb : -9223372036854775808 ≤ tb ∧ tb ≤ 9223372036854775807) (hmy : -9223372036854775808 ≤ br ∧ br ≤ 9223372036854775807) (hE : Env w) (hL : EnvW w) :
    Calls Tryz.prog 15 #[.agg #[.slice A l.length c, .slice A' l'.length c', .int .i64 br, .int .i64 tb]] w fun e w' => e = .returned (.bool true) ∧ Ext w w' := by
  have HLV := Lib.hid (fun X (hX : Ext w X) => lives31_any X (hL.ext hX))
  have HL := Lib.hid (fun X (hX : Ext w X) => hL.ext hX)
  have HMA := Lib.hid (fun X (hX : Ext w X) => made_any A A' c c' l l' br tb X (h.ext hX) hl (h'.ext hX) hl')
  have HTB := Lib.hid (fun X => around3_fn tb 2 X htb.1 htb.2 (by omega) (by omega))
  have HMY := Lib.hid (fun X => around3_fn br 256 X hmy.1 hmy.2 (by omega) (by omega))
  have HE := Lib.hid hE
  clear h h' hl hl' htb hmy hL hE
  obtain ⟨n1, hn1⟩ : ∃ n1, l.length = n1 := ⟨_, rfl⟩
  obtain ⟨n2, hn2⟩ : ∃ n2, l'.length = n2 := ⟨_, rfl⟩
  rw [hn1, hn2] at HMA ⊢
  clear hn1 hn2
  obtain ⟨t, ht⟩ : ∃ t, arnd tb 2 = t := ⟨_, rfl⟩
  rw [ht] at HTB
  clear ht
  obtain ⟨z, hz⟩ : ∃ z, w.heap.size = z := ⟨_, rfl⟩
  obtain ⟨w1, hw1⟩ : ∃ w1, w.alloc (.cells #[.slice A n1 c, .slice A' n2 c', .int .i64 br, .int .i64 tb] 24) = w1 := ⟨_, rfl⟩
  have hx1 : Ext w w1 := by rw [← hw1]; exact (Ext.refl w).alloc _
  have hB1 : w1.heap[z]? = some (.cells #[.slice A n1 c, .slice A' n2 c', .int .i64 br, .int .i64 tb] 24 (0, 0)) := by rw [← hw1, ← hz]; exact heap_alloc_new _ _
  have HX1 := Lib.hid hx1
  have HB1 := Lib.hid hB1
  have a0 := cell_of hB1 (i := 0) rfl
  have a1 := cell_of hB1 (i := 1) rfl
  have a2 := cell_of hB1 (i := 2) rfl
  have a3 := cell_of hB1 (i := 3) rfl
  clear hx1 hB1
  go_enter Tryz.func15, Tryz.ntmps15
  go_upto_region 1 with (fail)
  clear hw1 hz
  go_wp2_with fail
  refine (HMA.out _ HX1.out).mono ?_
  rintro e w2 ⟨b, B, N, cB, S, m, cS, ls, rfl, hok, hnc, hr, hmc, hrs, hlm, hgs, hx2⟩
  have HOK := Lib.hid hok.okB
  have HX2 := Lib.hid hx2
  have HM := Lib.hid (Lay.row_len hrs)
  have HMC := Lib.hid hmc
  have HLM := Lib.hid hlm
  have HGS := Lib.hid hgs
  have HSA := Lib.hid (fun e => row_A hrs e)
  obtain ⟨g, hg⟩ : ∃ g, w2.heap.size = g := ⟨_, rfl⟩
  obtain ⟨w3, hw3⟩ : ∃ w3, w2.alloc (.cells #[.int .i64 b.ms, .int .i64 b.ht, .slice B N cB] 27) = w3 := ⟨_, rfl⟩
  have hx23 : Ext w2 w3 := by rw [← hw3]; exact (Ext.refl w2).alloc _
  have hB3 : w3.heap[g]? = some (.cells #[.int .i64 b.ms, .int .i64 b.ht, .slice B N cB] 27 (0, 0)) := by rw [← hw3, ← hg]; exact heap_alloc_new _ _
  have HX3 := Lib.hid (hx2.trans hx23)
  have HB3 := Lib.hid hB3
  have HR := Lib.hid (fun X (hX : Ext w3 X) => Lay.row_ext hr (hx23.trans hX))
  have HRS := Lib.hid (fun X (hX : Ext w3 X) => Lay.row_ext hrs (hx23.trans hX))
  have HEV := Lib.hid (fun X (hX : Ext w3 X) => HL.out X (HX1.out.trans (HX3.out.trans hX)))
  have HQ := Lib.hid (fun X (hX : Ext w3 X) => (show (X.cell? ⟨z, 2, none⟩ = some (.int .i64 br) ∧ X.cell? ⟨z, 3, none⟩ = some (.int .i64 tb)) ∧ X.cell? ⟨g, 0, none⟩ = some (.int .i64 b.ms) ∧ X.cell? ⟨g, 1, none⟩ = some (.int .i64 b.ht) ∧ X.cell? ⟨g, 2, none⟩ = some (.slice B N cB) from
    have h9 := (hX.block _ (lt_of_block HB3.out)).trans HB3.out
    have h8 := ((HX3.out.trans hX).block _ (lt_of_block HB1.out)).trans HB1.out
    ⟨⟨cell_of h8 (i := 2) rfl, cell_of h8 (i := 3) rfl⟩, cell_of h9 (i := 0) rfl, cell_of h9 (i := 1) rfl, cell_of h9 (i := 2) rfl⟩))
  clear a0 a1 a2 a3 hx2 hx23 hB3 hr hrs hok hmc hlm hgs
  go_upto_region 2 with (fail)
  clear hw3 hg
  have HM8 := Lib.hid (show m ≤ 1000000 from by have := HM.out; have := HLM.out; omega)
  obtain ⟨bq, hbq⟩ : ∃ bq, arnd br 256 = bq := ⟨_, rfl⟩
  have HBQ := Lib.hid (show 0 ≤ bq ∧ bq < 256 by rw [← hbq]; exact arnd_in br 256 (by omega))
  rw [hbq] at HMY
  clear hbq
  have HIT := Lib.hid (items_mk w3 b bq t ls B S N cB m cS _ _ HOK.out (HR.out _ (Ext.refl _)) (HRS.out _ (Ext.refl _)) HM8.out HGS.out (HEV.out _ (Ext.refl _)))
  have HBI := Lib.hid (HOK.out.bkI (by omega) (by omega) (by omega))
  obtain ⟨⟨a2, a3⟩, p0, p1, p2⟩ := HQ.out _ (Ext.refl _)
  go_upto_region 3 with (first | (go_at_call 17; refine (HTB.out _).mono ?_; rintro e w9 ⟨rfl, rfl⟩))
  go_upto_region 4 with (first | (go_at_call 17; refine (HMY.out _).mono ?_; rintro e w9 ⟨rfl, rfl⟩))
  go_wp2_with fail
  refine (HIT.out).mono ?_
  rintro e w4 ⟨A1, n1, c1, rfl, hTa, hx4⟩
  have HTA := Lib.hid hTa
  have HX4 := Lib.hid hx4
  have HN1 := Lib.hid hTa.n
  obtain ⟨TB, hTB⟩ : ∃ TB, itemsB bq t ls b = TB := ⟨_, rfl⟩
  have HHIT := Lib.hid (fun k c => show Has TB k c → Hit bq t ls b k c from by rw [← hTB]; exact (has_items bq t ls b k c).1)
  rw [hTB] at HTA HN1
  clear hTa hx4 HIT hTB a2 a3 p0 p1 p2
  go_wp2_with fail
  go_loopw [8] (fun s8 W => PcR w4 n1 s8 W) (fun s8 _ => toM n1 s8)
  case atStart => exact ⟨0, Nat.zero_le _, rfl, Ext.refl _⟩
  case round =>
    obtain ⟨i, hi, rfl, hxr⟩ := hrel
    have HXR := Lib.hid hxr
    clear hxr
    have hn16 : n1 ≤ 16000000 := HN1.out.2.1
    by_cases hin : i < n1
    case neg =>
      have hI : ¬ (i : Int) < (n1 : Int) := by omega
      have HRG := Lib.hid (regtab_any wr TB A1 n1 c1 16000000 (HTA.out.ext HXR.out) (by omega))
      go_wp2_with (first | (go_at_call 30; refine (HRG.out).mono ?_; rintro e wy ⟨rfl, hxy⟩; have HXY := Lib.hid (HX1.out.trans (HX3.out.trans (HX4.out.trans (HXR.out.trans hxy)))); clear hxy) | (go_at_call 21; refine (HLV.out _ HXY.out).mono ?_; rintro e wz ⟨rfl, hxz⟩; have HXZ := Lib.hid (HXY.out.trans hxz); clear hxz))
      go_ret
      exact ⟨rfl, HXZ.out⟩
    have hI : (i : Int) < (n1 : Int) := by omega
    obtain ⟨y, hy⟩ : ∃ y, TB[i]? = some y := ⟨_, List.getElem?_eq_getElem (by have := HN1.out.1; omega)⟩
    have hym := List.mem_of_getElem? hy
    obtain ⟨bi, oi, A2, n2, c2, rfl, hbi, k0, k1, hn2, hr2⟩ := it_at HTA.out.row hy
    have HR2 := Lib.hid hr2
    have HN2 := Lib.hid (show n2 = y.2.length ∧ n2 ≤ 16000000 from by have := Lay.row_len hr2; have := HN1.out.2.2 y hym; omega)
    have HYM := Lib.hid hym
    have HQI := Lib.hid (fun X (hX : Ext w4 X) => (show X.cell? ⟨bi, oi + i * 2, none⟩ = some (.string ⟨y.1.toArray⟩) ∧ X.cell? ⟨bi, oi + i * 2 + 1, none⟩ = some (.slice A2 n2 c2) from ⟨(hX.cells.1 _ _ hbi).trans k0, (hX.cells.1 _ _ hbi).trans k1⟩))
    clear hy hym k0 k1 hbi hn2 hr2
    have hn216 : n2 ≤ 16000000 := HN2.out.2
    obtain ⟨k0, k1⟩ := HQI.out _ HXR.out
    go_upto_region 9 with (fail)
    clear k0 k1
    go_wp2_with fail
    go_loopw [9] (fun s9 W => PcR w4 n2 s9 W) (fun s9 _ => toM n2 s9)
    case atStart => exact ⟨0, Nat.zero_le _, rfl, HXR.out⟩
    case round =>
      rename World => wp
      obtain ⟨k, hk, rfl, hxk⟩ := hrel
      have HXK := Lib.hid hxk
      obtain ⟨k0, k1⟩ := HQI.out _ hxk
      clear hxk
      by_cases hkn : k < n2
      case neg =>
        have hK : ¬ (k : Int) < (n2 : Int) := by omega
        have hwi : IntKind.i64.wrap ((i : Int) + 1) = (i : Int) + 1 := IntWalk.i64_in _ (by omega)
        go_wp2_with fail
        go_roundw
        case rel => exact ⟨i + 1, by omega, by simp, HXK.out⟩
        case measure => simp only [toM]; omega
      have hK : (k : Int) < (n2 : Int) := by omega
      obtain ⟨cc, hcc⟩ : ∃ cc, y.2[k]? = some cc := ⟨_, List.getElem?_eq_getElem (by have := HN2.out.1; omega)⟩
      obtain ⟨hct, hcb, hk0, p, x, tx, hcp, htx, hn⟩ := hit_lab HOK.out HBQ.out.1 HBQ.out.2 (HHIT.out y.1 cc ⟨y.2, HYM.out, List.mem_of_getElem? hcc⟩)
      obtain ⟨bc, oc, rfl, hbc, _, d0, d1, d2, d3⟩ := ct_at HR2.out hcc
      obtain ⟨cbr, nu, su, li⟩ := cc
      obtain rfl : bq = cbr := hcb.symm
      have HCT := Lib.hid hct
      have HCP := Lib.hid hcp
      have HTX := Lib.hid htx
      have HCN := Lib.hid hn
      have hyk : (y.1 == []) = false := by simpa using hk0
      have HXP := Lib.hid (HX4.out.trans HXK.out)
      have HX0 := Lib.hid (HX1.out.trans (HX3.out.trans HXP.out))
      have d0 := (HXK.out.cells.1 _ _ hbc).trans d0
      have d1 := (HXK.out.cells.1 _ _ hbc).trans d1
      have d2 := (HXK.out.cells.1 _ _ hbc).trans d2
      have d3 := (HXK.out.cells.1 _ _ hbc).trans d3
      have HLI := Lib.hid (show 0 ≤ li ∧ li ≤ 1000 from by have h9 := citB_cases hct; dsimp only at h9; omega)
      clear hct hcp htx hn hcc hcb hk0 hbc
      go_upto_region 12 with (fail)
      clear k0 k1 d0 d1 d2 d3
      obtain ⟨w5, hw5⟩ : ∃ w5, wp.alloc (.cells #[.int .i64 bq, .int .i64 nu, .int .i64 su, .int .i64 li] 69) = w5 := ⟨_, rfl⟩
      obtain ⟨z10, hz10⟩ : ∃ z10, wp.heap.size = z10 := ⟨_, rfl⟩
      have hx5 : Ext wp w5 := by rw [← hw5]; exact (Ext.refl wp).alloc _
      have hB5 : w5.heap[z10]? = some (.cells #[.int .i64 bq, .int .i64 nu, .int .i64 su, .int .i64 li] 69 (0, 0)) := by rw [← hw5, ← hz10]; exact heap_alloc_new _ _
      rw [hw5, hz10]
      have HB5 := Lib.hid hB5
      have HX55 := Lib.hid hx5
      have HX5 := Lib.hid (HXP.out.trans hx5)
      have HX05 := Lib.hid (HX0.out.trans hx5)
      have d0 := cell_of hB5 (i := 0) rfl
      have d1 := cell_of hB5 (i := 1) rfl
      have d2 := cell_of hB5 (i := 2) rfl
      have d3 := cell_of hB5 (i := 3) rfl
      have HFD := Lib.hid (show Calls Tryz.prog 44 #[.agg #[.int .i64 b.ms, .int .i64 b.ht, .slice B N cB], .agg #[.int .i64 bq, .int .i64 nu, .int .i64 su, .int .i64 li]] w5 (FindPost w5 b nu su li) from find_cite _ w5 b bq nu su li B N cB HBI.out (HR.out _ HX5.out) (HEV.out _ HX5.out) (by have := HLI.out; omega) (by have := HLI.out; omega))
      clear hx5 hB5 hw5 hz10
      obtain ⟨_, p0, p1, p2⟩ := HQ.out _ HX5.out
      go_upto_region 13 with (first | (go_at_call 44; refine (HFD.out).mono ?_; intro z9 w8 hz; obtain ⟨A7, n7, c7, A8, n8, c8, A9, n9, c9, A4, n4, c4, rfl, hx⟩ := find_yes HCP.out hz))
      obtain ⟨O8, hO8⟩ : ∃ O, (Obj.cells #[.int .i64 p.num, .int .i64 p.suf, .int .i64 p.ent, .int .i64 p.ver, .slice A7 n7 c7, .slice A8 n8 c8] 84) = O := ⟨_, rfl⟩
      obtain ⟨O9, hO9⟩ : ∃ O, (Obj.cells #[.int .i64 x.fr, .int .i64 x.un, .slice A9 n9 c9, .slice A4 n4 c4] 86) = O := ⟨_, rfl⟩
      have hx9 : Ext w5 ((w8.alloc O8).alloc O9) := (hx.alloc _).alloc _
      have h8 : ((w8.alloc O8).alloc O9).heap[w8.heap.size]? = some (.cells #[.int .i64 p.num, .int .i64 p.suf, .int .i64 p.ent, .int .i64 p.ver, .slice A7 n7 c7, .slice A8 n8 c8] 84 (0, 0)) := by
        rw [← hO8, heap_alloc_old _ _ _ (by rw [World.size_alloc]; omega)]
        exact heap_alloc_new w8 _
      have h9 : ((w8.alloc O8).alloc O9).heap[w8.heap.size + 1]? = some (.cells #[.int .i64 x.fr, .int .i64 x.un, .slice A9 n9 c9, .slice A4 n4 c4] 86 (0, 0)) := by
        rw [← hO9]
        exact heap_alloc_at _ _ _ _ (by rw [World.size_alloc])
      rw [hO8, hO9]
      obtain ⟨w9, hw9⟩ : ∃ w9, (w8.alloc O8).alloc O9 = w9 := ⟨_, rfl⟩
      obtain ⟨z12, hz12⟩ : ∃ z, w8.heap.size + 1 = z := ⟨_, rfl⟩
      obtain ⟨z11, hz11⟩ : ∃ z, w8.heap.size = z := ⟨_, rfl⟩
      rw [hw9] at hx9 h8 h9 ⊢
      rw [hz12] at h9 ⊢
      rw [hz11] at h8 ⊢
      have H8 := Lib.hid h8
      have H9 := Lib.hid h9
      have HX59 := Lib.hid hx9
      have HX9 := Lib.hid (HX5.out.trans hx9)
      have HX09 := Lib.hid (HX05.out.trans hx9)
      have e1 := cell_of h8 (i := 2) (u := .int .i64 p.ent) rfl
      have e2 := cell_of h8 (i := 3) (u := .int .i64 p.ver) rfl
      clear d0 d1 d2 d3 p0 p1 p2 hx hx9 h8 h9 hO8 hO9 hw9 hz11 hz12 HFD
      clear O8 O9
      obtain ⟨_, p0, p1, p2⟩ := HQ.out _ HX9.out
      have HBT := Lib.hid (show Calls Tryz.prog 52 #[.agg #[.int .i64 b.ms, .int .i64 b.ht, .slice B N cB], .int .i64 p.ent, .int .i64 p.ver] w9 (fun e w' => ∃ A5 n5 c5 A6 n6 c6, e = .returned (.tuple #[.agg #[.slice A5 n5 c5, .slice A6 n6 c6], .bool true]) ∧ kWs.row w' (fun j => w9.heap.size ≤ j) A5 n5 tx.paras ∧ kWs.row w' (fun j => w9.heap.size ≤ j) A6 n6 tx.notes ∧ Ext w9 w') from by
        have h9 := btext_any _ w9 b p.ent p.ver B N cB (HR.out _ HX9.out) HBI.out.s HBI.out.vs
        rw [HTX.out] at h9
        refine h9.mono ?_
        rintro e w' ⟨A5, n5, c5, A6, n6, c6, rfl, _, _, r5, r6, hx⟩
        exact ⟨A5, n5, c5, A6, n6, c6, rfl, r5, r6, hx⟩)
      go_wp2_with fail
      refine (HBT.out).mono ?_
      rintro e wt ⟨A5, n5, c5, A6, n6, c6, rfl, hr5, hr6, hxt⟩
      obtain ⟨w6, hw6⟩ : ∃ w6, wt.alloc (.cells #[.slice A5 n5 c5, .slice A6 n6 c6] 53) = w6 := ⟨_, rfl⟩
      obtain ⟨z14, hz14⟩ : ∃ z, wt.heap.size = z := ⟨_, rfl⟩
      have hx6 : Ext wt w6 := by rw [← hw6]; exact (Ext.refl wt).alloc _
      have hB6 : w6.heap[z14]? = some (.cells #[.slice A5 n5 c5, .slice A6 n6 c6] 53 (0, 0)) := by rw [← hw6, ← hz14]; exact heap_alloc_new _ _
      have HB6 := Lib.hid hB6
      have HX96 := Lib.hid (hxt.trans hx6)
      have HX6 := Lib.hid (HX9.out.trans (hxt.trans hx6))
      have HX06 := Lib.hid (HX09.out.trans (hxt.trans hx6))
      have HR5 := Lib.hid (Lay.row_ext hr5 hx6)
      have HR6 := Lib.hid (Lay.row_ext hr6 hx6)
      clear hr5 hr6 hxt hx6 hB6 HBT e1 e2 p0 p1 p2
      go_upto_region 14 with (fail)
      clear hw6 hz14
      obtain ⟨TS, hTS⟩ : ∃ TS : ByteArray, ⟨(textPC ⟨bq, nu, su, li⟩).toArray⟩ = TS := ⟨_, rfl⟩
      have HTXT := Lib.hid (show Calls Tryz.prog 50 #[.agg #[.int .i64 bq, .int .i64 nu, .int .i64 su, .int .i64 li]] w6 (fun e X' => e = .returned (.string TS) ∧ Ext w6 X') from by
        have := ctext_any ⟨bq, nu, su, li⟩ w6 (HE.out.ext HX06.out).tab
        unfold StrPost at this
        rw [hTS] at this
        exact this)
      have HPS := Lib.hid (fun X (hX : Ext w6 X) => (show Calls Tryz.prog 49 #[.string TS] X (fun e X' => e = .returned (.tuple #[.agg #[.int .i64 bq, .int .i64 nu, .int .i64 su, .int .i64 li], .int .i64 0]) ∧ Ext X X') from by
        have := cparse_any TS X (by rw [← hTS]; have := txt_size HCT.out; omega) (HE.out.ext (HX06.out.trans hX))
        rw [show TS.data.toList = textPC ⟨bq, nu, su, li⟩ by rw [← hTS], parse_text HCT.out] at this
        exact this))
      clear hTS
      have hD6 := ((HX59.out.trans HX96.out).block _ (lt_of_block HB5.out)).trans HB5.out
      have d0 := cell_of hD6 (i := 0) rfl
      have d1 := cell_of hD6 (i := 1) rfl
      have d2 := cell_of hD6 (i := 2) rfl
      have d3 := cell_of hD6 (i := 3) rfl
      clear hD6
      go_upto_region 15 with (first | (go_at_call 50; refine (HTXT.out).mono ?_; rintro z9 wa ⟨rfl, hxa⟩; have HXA := Lib.hid hxa; clear hxa) | (go_at_call 49; refine (HPS.out _ HXA.out).mono ?_; rintro z9 wb ⟨rfl, hxb⟩; have HXB := Lib.hid hxb; clear hxb))
      clear d0 d1 d2 d3
      obtain ⟨w7, hw7⟩ : ∃ w7, wb.alloc (.cells #[.int .i64 bq, .int .i64 nu, .int .i64 su, .int .i64 li] 69) = w7 := ⟨_, rfl⟩
      obtain ⟨z16, hz16⟩ : ∃ z, wb.heap.size = z := ⟨_, rfl⟩
      have hx7 : Ext wb w7 := by rw [← hw7]; exact (Ext.refl wb).alloc _
      have hB7 : w7.heap[z16]? = some (.cells #[.int .i64 bq, .int .i64 nu, .int .i64 su, .int .i64 li] 69 (0, 0)) := by rw [← hw7, ← hz16]; exact heap_alloc_new _ _
      rw [hw7, hz16]
      have HB7 := Lib.hid hB7
      have HX67 := Lib.hid (HXA.out.trans (HXB.out.trans hx7))
      have HX57 := Lib.hid (HX59.out.trans (HX96.out.trans HX67.out))
      have HX47 := Lib.hid (HXK.out.trans (HX55.out.trans HX57.out))
      have HQF := Lib.hid (fun X (hX : Ext w7 X) => (show (X.cell? ⟨bi, oi + i * 2, none⟩ = some (.string ⟨y.1.toArray⟩) ∧ (X.cell? ⟨z16, 0, none⟩ = some (.int .i64 bq) ∧ X.cell? ⟨z16, 1, none⟩ = some (.int .i64 nu) ∧ X.cell? ⟨z16, 2, none⟩ = some (.int .i64 su) ∧ X.cell? ⟨z16, 3, none⟩ = some (.int .i64 li)) ∧ (X.cell? ⟨z10, 0, none⟩ = some (.int .i64 bq) ∧ X.cell? ⟨z10, 1, none⟩ = some (.int .i64 nu) ∧ X.cell? ⟨z10, 2, none⟩ = some (.int .i64 su) ∧ X.cell? ⟨z10, 3, none⟩ = some (.int .i64 li)) ∧ (X.cell? ⟨z11, 0, none⟩ = some (.int .i64 p.num) ∧ X.cell? ⟨z11, 1, none⟩ = some (.int .i64 p.suf) ∧ X.cell? ⟨z11, 2, none⟩ = some (.int .i64 p.ent) ∧ X.cell? ⟨z11, 3, none⟩ = some (.int .i64 p.ver) ∧ X.cell? ⟨z11, 4, none⟩ = some (.slice A7 n7 c7) ∧ X.cell? ⟨z11, 5, none⟩ = some (.slice A8 n8 c8)) ∧ (X.cell? ⟨z12, 0, none⟩ = some (.int .i64 x.fr) ∧ X.cell? ⟨z12, 1, none⟩ = some (.int .i64 x.un) ∧ X.cell? ⟨z12, 2, none⟩ = some (.slice A9 n9 c9) ∧ X.cell? ⟨z12, 3, none⟩ = some (.slice A4 n4 c4)) ∧ (X.cell? ⟨z14, 0, none⟩ = some (.slice A5 n5 c5) ∧ X.cell? ⟨z14, 1, none⟩ = some (.slice A6 n6 c6))) from
        have q7 := (hX.block _ (lt_of_block HB7.out)).trans HB7.out
        have q5 := ((HX57.out.trans hX).block _ (lt_of_block HB5.out)).trans HB5.out
        have q8 := ((HX96.out.trans (HX67.out.trans hX)).block _ (lt_of_block H8.out)).trans H8.out
        have q9 := ((HX96.out.trans (HX67.out.trans hX)).block _ (lt_of_block H9.out)).trans H9.out
        have q6 := ((HX67.out.trans hX).block _ (lt_of_block HB6.out)).trans HB6.out
        ⟨(HQI.out X (HX47.out.trans hX)).1, ⟨cell_of q7 (i := 0) rfl, cell_of q7 (i := 1) rfl, cell_of q7 (i := 2) rfl, cell_of q7 (i := 3) rfl⟩, ⟨cell_of q5 (i := 0) rfl, cell_of q5 (i := 1) rfl, cell_of q5 (i := 2) rfl, cell_of q5 (i := 3) rfl⟩, ⟨cell_of q8 (i := 0) rfl, cell_of q8 (i := 1) rfl, cell_of q8 (i := 2) rfl, cell_of q8 (i := 3) rfl, cell_of q8 (i := 4) rfl, cell_of q8 (i := 5) rfl⟩, ⟨cell_of q9 (i := 0) rfl, cell_of q9 (i := 1) rfl, cell_of q9 (i := 2) rfl, cell_of q9 (i := 3) rfl⟩, cell_of q6 (i := 0) rfl, cell_of q6 (i := 1) rfl⟩))
      have HCA := Lib.hid (fun X (hX : Ext w7 X) => (show Calls Tryz.prog 53 #[.agg #[.int .i64 p.num, .int .i64 p.suf, .int .i64 p.ent, .int .i64 p.ver, .slice A7 n7 c7, .slice A8 n8 c8], .agg #[.int .i64 x.fr, .int .i64 x.un, .slice A9 n9 c9, .slice A4 n4 c4], .agg #[.slice A5 n5 c5, .slice A6 n6 c6], .slice S m cS, .string ⟨y.1.toArray⟩, .int .i64 t] X (fun e w' => e = .returned (.bool true) ∧ Ext X w') from by
        have hm9 := citP_mem HCP.out
        have hrg := HOK.out.rng p hm9.1 x hm9.2
        have hX6 := HX67.out.trans hX
        exact carries_any _ _ X p.num p.suf p.ent p.ver _ _ _ _ ⟨⟨rfl, rfl⟩, rfl, rfl⟩ x.fr x.un tx A5 A6 S n5 c5 n6 c6 m cS ls y.1 t (Lay.row_ext HR5.out hX6) (Lay.row_ext HR6.out hX6) (textB_ok HOK.out HTX.out) (HRS.out X (HX6.out.trans hX6)) HM8.out HGS.out ⟨hrg.1, by have := hrg.2.2; omega⟩ HCN.out))
      have d : ∀ W, (binOp .neq 69 (.agg #[.int .i64 bq, .int .i64 nu, .int .i64 su, .int .i64 li]) (.agg #[.int .i64 bq, .int .i64 nu, .int .i64 su, .int .i64 li])).run Tryz.prog W = .ok (.bool false) W := fun W => by
        have h9 := neq_ct ⟨bq, nu, su, li⟩ ⟨bq, nu, su, li⟩ W
        simpa [ctV] using h9
      have hwk : IntKind.i64.wrap ((k : Int) + 1) = (k : Int) + 1 := IntWalk.i64_in _ (by omega)
      have HXF := Lib.hid HX47.out
      clear hx7 hB7 hw7 hz16
      have hcur : Ext w7 w7.drew := (Ext.refl _).drew
      have hS0 : (fun X : World => X.cell? ⟨bi, oi + i * 2, none⟩ = some (.string ⟨y.1.toArray⟩) ∧ (X.cell? ⟨z16, 0, none⟩ = some (.int .i64 bq) ∧ X.cell? ⟨z16, 1, none⟩ = some (.int .i64 nu) ∧ X.cell? ⟨z16, 2, none⟩ = some (.int .i64 su) ∧ X.cell? ⟨z16, 3, none⟩ = some (.int .i64 li)) ∧ (X.cell? ⟨z10, 0, none⟩ = some (.int .i64 bq) ∧ X.cell? ⟨z10, 1, none⟩ = some (.int .i64 nu) ∧ X.cell? ⟨z10, 2, none⟩ = some (.int .i64 su) ∧ X.cell? ⟨z10, 3, none⟩ = some (.int .i64 li)) ∧ (X.cell? ⟨z11, 0, none⟩ = some (.int .i64 p.num) ∧ X.cell? ⟨z11, 1, none⟩ = some (.int .i64 p.suf) ∧ X.cell? ⟨z11, 2, none⟩ = some (.int .i64 p.ent) ∧ X.cell? ⟨z11, 3, none⟩ = some (.int .i64 p.ver) ∧ X.cell? ⟨z11, 4, none⟩ = some (.slice A7 n7 c7) ∧ X.cell? ⟨z11, 5, none⟩ = some (.slice A8 n8 c8)) ∧ (X.cell? ⟨z12, 0, none⟩ = some (.int .i64 x.fr) ∧ X.cell? ⟨z12, 1, none⟩ = some (.int .i64 x.un) ∧ X.cell? ⟨z12, 2, none⟩ = some (.slice A9 n9 c9) ∧ X.cell? ⟨z12, 3, none⟩ = some (.slice A4 n4 c4)) ∧ (X.cell? ⟨z14, 0, none⟩ = some (.slice A5 n5 c5) ∧ X.cell? ⟨z14, 1, none⟩ = some (.slice A6 n6 c6))) w7.drew := HQF.out _ hcur
      refine wp_region_E (fun X : World => X.cell? ⟨bi, oi + i * 2, none⟩ = some (.string ⟨y.1.toArray⟩) ∧ (X.cell? ⟨z16, 0, none⟩ = some (.int .i64 bq) ∧ X.cell? ⟨z16, 1, none⟩ = some (.int .i64 nu) ∧ X.cell? ⟨z16, 2, none⟩ = some (.int .i64 su) ∧ X.cell? ⟨z16, 3, none⟩ = some (.int .i64 li)) ∧ (X.cell? ⟨z10, 0, none⟩ = some (.int .i64 bq) ∧ X.cell? ⟨z10, 1, none⟩ = some (.int .i64 nu) ∧ X.cell? ⟨z10, 2, none⟩ = some (.int .i64 su) ∧ X.cell? ⟨z10, 3, none⟩ = some (.int .i64 li)) ∧ (X.cell? ⟨z11, 0, none⟩ = some (.int .i64 p.num) ∧ X.cell? ⟨z11, 1, none⟩ = some (.int .i64 p.suf) ∧ X.cell? ⟨z11, 2, none⟩ = some (.int .i64 p.ent) ∧ X.cell? ⟨z11, 3, none⟩ = some (.int .i64 p.ver) ∧ X.cell? ⟨z11, 4, none⟩ = some (.slice A7 n7 c7) ∧ X.cell? ⟨z11, 5, none⟩ = some (.slice A8 n8 c8)) ∧ (X.cell? ⟨z12, 0, none⟩ = some (.int .i64 x.fr) ∧ X.cell? ⟨z12, 1, none⟩ = some (.int .i64 x.un) ∧ X.cell? ⟨z12, 2, none⟩ = some (.slice A9 n9 c9) ∧ X.cell? ⟨z12, 3, none⟩ = some (.slice A4 n4 c4)) ∧ (X.cell? ⟨z14, 0, none⟩ = some (.slice A5 n5 c5) ∧ X.cell? ⟨z14, 1, none⟩ = some (.slice A6 n6 c6))) (fun _ => True) (fun i => i == 99) (by kernel_rfl) ?_
      refine wpE_takeS (i := 0) (d := some 80) (v := .bool true) rfl rfl (by kernel_rfl) (by kernel_rfl) (by kernel_rfl) (by kernel_rfl) (fun _ _ _ h => h) (by rfl) ?hye1 hS0 trivial ?goe1
      case hye1 =>
        intro w9 hT9
        clear hT9; go_simp
      (try simp only [Act.put, List.setIfInBounds_toArray, List.set_cons_zero, List.set_cons_succ])
      refine wpE_takeS (i := 1) (d := some 81) (v := .bool false) rfl rfl (by kernel_rfl) (by kernel_rfl) (by kernel_rfl) (by kernel_rfl) (fun _ _ _ h => h) (by rfl) ?hye2 hS0 trivial ?goe2
      case hye2 =>
        intro w9 hT9
        clear hT9; go_simp
      (try simp only [Act.put, List.setIfInBounds_toArray, List.set_cons_zero, List.set_cons_succ])
      refine wpE_takeS (i := 2) (d := some 82) (v := .bool false) rfl rfl (by kernel_rfl) (by kernel_rfl) (by kernel_rfl) (by kernel_rfl) (fun _ _ _ h => h) (by rfl) ?hye3 hS0 trivial ?goe3
      case hye3 =>
        intro w9 hT9
        clear hT9; go_simp
      (try simp only [Act.put, List.setIfInBounds_toArray, List.set_cons_zero, List.set_cons_succ])
      refine wpE_takeS (i := 3) (d := some 83) (v := .bool true) rfl rfl (by kernel_rfl) (by kernel_rfl) (by kernel_rfl) (by kernel_rfl) (fun _ _ _ h => h) (by rfl) ?hye4 hS0 trivial ?goe4
      case hye4 =>
        intro w9 hT9
        clear hT9; go_simp
      (try simp only [Act.put, List.setIfInBounds_toArray, List.set_cons_zero, List.set_cons_succ])
      refine wpE_takeS (i := 4) (d := some 84) (v := .bool false) rfl rfl (by kernel_rfl) (by kernel_rfl) (by kernel_rfl) (by kernel_rfl) (fun _ _ _ h => h) (by rfl) ?hye5 hS0 trivial ?goe5
      case hye5 =>
        intro w9 hT9
        clear hT9; go_simp
      (try simp only [Act.put, List.setIfInBounds_toArray, List.set_cons_zero, List.set_cons_succ])
      refine wpE_takeS (i := 5) (d := some 85) (v := .bool false) rfl rfl (by kernel_rfl) (by kernel_rfl) (by kernel_rfl) (by kernel_rfl) (fun _ _ _ h => h) (by rfl) ?hye6 hS0 trivial ?goe6
      case hye6 =>
        intro w9 hT9
        clear hT9; go_simp
      (try simp only [Act.put, List.setIfInBounds_toArray, List.set_cons_zero, List.set_cons_succ])
      refine wpE_takeS (i := 6) (d := some 86) (v := .bool false) rfl rfl (by kernel_rfl) (by kernel_rfl) (by kernel_rfl) (by kernel_rfl) (fun _ _ _ h => h) (by rfl) ?hye7 hS0 trivial ?goe7
      case hye7 =>
        intro w9 hT9
        clear hT9; go_simp
      (try simp only [Act.put, List.setIfInBounds_toArray, List.set_cons_zero, List.set_cons_succ])
      refine wpE_takeS (i := 7) (d := some 87) (v := .int .i64 0) rfl rfl (by kernel_rfl) (by kernel_rfl) (by kernel_rfl) (by kernel_rfl) (fun _ _ _ h => h) (by rfl) ?hye8 hS0 trivial ?goe8
      case hye8 =>
        intro w9 hT9
        clear hT9; go_simp
      (try simp only [Act.put, List.setIfInBounds_toArray, List.set_cons_zero, List.set_cons_succ])
      refine wpE_takeS (i := 8) (d := some 88) (v := .bool false) rfl rfl (by kernel_rfl) (by kernel_rfl) (by kernel_rfl) (by kernel_rfl) (fun _ _ _ h => h) (by rfl) ?hye9 hS0 trivial ?goe9
      case hye9 =>
        intro w9 hT9
        clear hT9; go_simp
      (try simp only [Act.put, List.setIfInBounds_toArray, List.set_cons_zero, List.set_cons_succ])
      refine wpE_takeS (i := 9) (d := some 89) (v := .bool false) rfl rfl (by kernel_rfl) (by kernel_rfl) (by kernel_rfl) (by kernel_rfl) (fun _ _ _ h => h) (by rfl) ?hye10 hS0 trivial ?goe10
      case hye10 =>
        intro w9 hT9
        clear hT9; go_simp
      (try simp only [Act.put, List.setIfInBounds_toArray, List.set_cons_zero, List.set_cons_succ])
      refine wpE_takeS (i := 10) (d := some 90) (v := .bool false) rfl rfl (by kernel_rfl) (by kernel_rfl) (by kernel_rfl) (by kernel_rfl) (fun _ _ _ h => h) (by rfl) ?hye11 hS0 trivial ?goe11
      case hye11 =>
        intro w9 hT9
        clear hT9; go_simp
      (try simp only [Act.put, List.setIfInBounds_toArray, List.set_cons_zero, List.set_cons_succ])
      refine wpE_takeS (i := 11) (d := some 91) (v := .agg #[.int .i64 bq, .int .i64 nu, .int .i64 su, .int .i64 li]) rfl rfl (by kernel_rfl) (by kernel_rfl) (by kernel_rfl) (by kernel_rfl) (fun _ _ _ h => h) (by rfl) ?hye12 hS0 trivial ?goe12
      case hye12 =>
        intro w9 hT9
        obtain ⟨y0, ⟨y1, y2, y3, y4⟩, ⟨y5, y6, y7, y8⟩, ⟨u1, u2, u3, u4, u5, u6⟩, ⟨v1, v2, v3, v4⟩, x1, x2⟩ := hT9; go_simp
      (try simp only [Act.put, List.setIfInBounds_toArray, List.set_cons_zero, List.set_cons_succ])
      refine wpE_takeS (i := 12) (d := some 92) (v := .agg #[.int .i64 bq, .int .i64 nu, .int .i64 su, .int .i64 li]) rfl rfl (by kernel_rfl) (by kernel_rfl) (by kernel_rfl) (by kernel_rfl) (fun _ _ _ h => h) (by rfl) ?hye13 hS0 trivial ?goe13
      case hye13 =>
        intro w9 hT9
        obtain ⟨y0, ⟨y1, y2, y3, y4⟩, ⟨y5, y6, y7, y8⟩, ⟨u1, u2, u3, u4, u5, u6⟩, ⟨v1, v2, v3, v4⟩, x1, x2⟩ := hT9; go_simp
      (try simp only [Act.put, List.setIfInBounds_toArray, List.set_cons_zero, List.set_cons_succ])
      refine wpE_takeS (i := 13) (d := some 93) (v := .bool false) rfl rfl (by kernel_rfl) (by kernel_rfl) (by kernel_rfl) (by kernel_rfl) (fun _ _ _ h => h) (by rfl) ?hye14 hS0 trivial ?goe14
      case hye14 =>
        intro w9 hT9
        clear hT9; go_simp
      (try simp only [Act.put, List.setIfInBounds_toArray, List.set_cons_zero, List.set_cons_succ])
      refine wpE_takeS (i := 14) (d := some 94) (v := .bool false) rfl rfl (by kernel_rfl) (by kernel_rfl) (by kernel_rfl) (by kernel_rfl) (fun _ _ _ h => h) (by rfl) ?hye15 hS0 trivial ?goe15
      case hye15 =>
        intro w9 hT9
        clear hT9; go_simp
      (try simp only [Act.put, List.setIfInBounds_toArray, List.set_cons_zero, List.set_cons_succ])
      refine wpE_takeS (i := 15) (d := some 95) (v := .bool false) rfl rfl (by kernel_rfl) (by kernel_rfl) (by kernel_rfl) (by kernel_rfl) (fun _ _ _ h => h) (by rfl) ?hye16 hS0 trivial ?goe16
      case hye16 =>
        intro w9 hT9
        clear hT9; go_simp
      (try simp only [Act.put, List.setIfInBounds_toArray, List.set_cons_zero, List.set_cons_succ])
      refine wpE_takeS (i := 16) (d := some 96) (v := .pointer (some ⟨z10, 0, none⟩)) rfl rfl (by kernel_rfl) (by kernel_rfl) (by kernel_rfl) (by kernel_rfl) (fun _ _ _ h => h) (by rfl) ?hye17 hS0 trivial ?goe17
      case hye17 =>
        intro w9 hT9
        clear hT9; go_simp
      (try simp only [Act.put, List.setIfInBounds_toArray, List.set_cons_zero, List.set_cons_succ])
      refine wpE_takeS (i := 17) (d := some 97) (v := .int .i64 bq) rfl rfl (by kernel_rfl) (by kernel_rfl) (by kernel_rfl) (by kernel_rfl) (fun _ _ _ h => h) (by rfl) ?hye18 hS0 trivial ?goe18
      case hye18 =>
        intro w9 hT9
        obtain ⟨y0, ⟨y1, y2, y3, y4⟩, ⟨y5, y6, y7, y8⟩, ⟨u1, u2, u3, u4, u5, u6⟩, ⟨v1, v2, v3, v4⟩, x1, x2⟩ := hT9; go_simp
      (try simp only [Act.put, List.setIfInBounds_toArray, List.set_cons_zero, List.set_cons_succ])
      refine wpE_takeS (i := 18) (d := some 98) (v := .int .i64 bq) rfl rfl (by kernel_rfl) (by kernel_rfl) (by kernel_rfl) (by kernel_rfl) (fun _ _ _ h => h) (by rfl) ?hye19 hS0 trivial ?goe19
      case hye19 =>
        intro w9 hT9
        clear hT9; go_simp
      (try simp only [Act.put, List.setIfInBounds_toArray, List.set_cons_zero, List.set_cons_succ])
      refine wpE_takeS (i := 19) (d := some 99) (v := .bool false) rfl rfl (by kernel_rfl) (by kernel_rfl) (by kernel_rfl) (by kernel_rfl) (fun _ _ _ h => h) (by rfl) ?hye20 hS0 trivial ?goe20
      case hye20 =>
        intro w9 hT9
        clear hT9; go_simp
      (try simp only [Act.put, List.setIfInBounds_toArray, List.set_cons_zero, List.set_cons_succ])
      refine wpE_takeS (i := 20) (d := some 100) (v := .bool false) rfl rfl (by kernel_rfl) (by kernel_rfl) (by kernel_rfl) (by kernel_rfl) (fun _ _ _ h => h) (by rfl) ?hye21 hS0 trivial ?goe21
      case hye21 =>
        intro w9 hT9
        clear hT9; go_simp
      (try simp only [Act.put, List.setIfInBounds_toArray, List.set_cons_zero, List.set_cons_succ])
      refine wpE_takeS (i := 21) (d := some 101) (v := .bool false) rfl rfl (by kernel_rfl) (by kernel_rfl) (by kernel_rfl) (by kernel_rfl) (fun _ _ _ h => h) (by rfl) ?hye22 hS0 trivial ?goe22
      case hye22 =>
        intro w9 hT9
        clear hT9; go_simp
      (try simp only [Act.put, List.setIfInBounds_toArray, List.set_cons_zero, List.set_cons_succ])
      refine wpE_takeS (i := 22) (d := some 102) (v := .slice (some ⟨bi, oi, none⟩) n1 c1) rfl rfl (by kernel_rfl) (by kernel_rfl) (by kernel_rfl) (by kernel_rfl) (fun _ _ _ h => h) (by rfl) ?hye23 hS0 trivial ?goe23
      case hye23 =>
        intro w9 hT9
        clear hT9; go_simp
      (try simp only [Act.put, List.setIfInBounds_toArray, List.set_cons_zero, List.set_cons_succ])
      refine wpE_takeS (i := 23) (d := some 103) (v := .int .i64 (i : Int)) rfl rfl (by kernel_rfl) (by kernel_rfl) (by kernel_rfl) (by kernel_rfl) (fun _ _ _ h => h) (by rfl) ?hye24 hS0 trivial ?goe24
      case hye24 =>
        intro w9 hT9
        clear hT9; go_simp
      (try simp only [Act.put, List.setIfInBounds_toArray, List.set_cons_zero, List.set_cons_succ])
      refine wpE_takeS (i := 24) (d := some 104) (v := .pointer (some ⟨bi, oi + i * 2, none⟩)) rfl rfl (by kernel_rfl) (by kernel_rfl) (by kernel_rfl) (by kernel_rfl) (fun _ _ _ h => h) (by rfl) ?hye25 hS0 trivial ?goe25
      case hye25 =>
        intro w9 hT9
        clear hT9; go_simp
      (try simp only [Act.put, List.setIfInBounds_toArray, List.set_cons_zero, List.set_cons_succ])
      refine wpE_takeS (i := 25) (d := some 105) (v := .pointer (some ⟨bi, oi + i * 2, none⟩)) rfl rfl (by kernel_rfl) (by kernel_rfl) (by kernel_rfl) (by kernel_rfl) (fun _ _ _ h => h) (by rfl) ?hye26 hS0 trivial ?goe26
      case hye26 =>
        intro w9 hT9
        clear hT9; go_simp
      (try simp only [Act.put, List.setIfInBounds_toArray, List.set_cons_zero, List.set_cons_succ])
      refine wpE_takeS (i := 26) (d := some 106) (v := .string ⟨y.1.toArray⟩) rfl rfl (by kernel_rfl) (by kernel_rfl) (by kernel_rfl) (by kernel_rfl) (fun _ _ _ h => h) (by rfl) ?hye27 hS0 trivial ?goe27
      case hye27 =>
        intro w9 hT9
        obtain ⟨y0, ⟨y1, y2, y3, y4⟩, ⟨y5, y6, y7, y8⟩, ⟨u1, u2, u3, u4, u5, u6⟩, ⟨v1, v2, v3, v4⟩, x1, x2⟩ := hT9; go_simp
      (try simp only [Act.put, List.setIfInBounds_toArray, List.set_cons_zero, List.set_cons_succ])
      refine wpE_takeS (i := 27) (d := some 107) (v := .bool false) rfl rfl (by kernel_rfl) (by kernel_rfl) (by kernel_rfl) (by kernel_rfl) (fun _ _ _ h => h) (by rfl) ?hye28 hS0 trivial ?goe28
      case hye28 =>
        intro w9 hT9
        clear hT9; go_simp
      (try simp only [Act.put, List.setIfInBounds_toArray, List.set_cons_zero, List.set_cons_succ])
      refine wpE_takeS (i := 28) (d := some 108) (v := .bool false) rfl rfl (by kernel_rfl) (by kernel_rfl) (by kernel_rfl) (by kernel_rfl) (fun _ _ _ h => h) (by rfl) ?hye29 hS0 trivial ?goe29
      case hye29 =>
        intro w9 hT9
        clear hT9; go_simp
      (try simp only [Act.put, List.setIfInBounds_toArray, List.set_cons_zero, List.set_cons_succ])
      refine wpE_takeS (i := 29) (d := some 109) (v := .bool false) rfl rfl (by kernel_rfl) (by kernel_rfl) (by kernel_rfl) (by kernel_rfl) (fun _ _ _ h => h) (by rfl) ?hye30 hS0 trivial ?goe30
      case hye30 =>
        intro w9 hT9
        clear hT9; go_simp
      (try simp only [Act.put, List.setIfInBounds_toArray, List.set_cons_zero, List.set_cons_succ])
      refine wpE_takeS (i := 30) (d := some 110) (v := .agg #[.int .i64 p.num, .int .i64 p.suf, .int .i64 p.ent, .int .i64 p.ver, .slice A7 n7 c7, .slice A8 n8 c8]) rfl rfl (by kernel_rfl) (by kernel_rfl) (by kernel_rfl) (by kernel_rfl) (fun _ _ _ h => h) (by rfl) ?hye31 hS0 trivial ?goe31
      case hye31 =>
        intro w9 hT9
        obtain ⟨y0, ⟨y1, y2, y3, y4⟩, ⟨y5, y6, y7, y8⟩, ⟨u1, u2, u3, u4, u5, u6⟩, ⟨v1, v2, v3, v4⟩, x1, x2⟩ := hT9; go_simp
      (try simp only [Act.put, List.setIfInBounds_toArray, List.set_cons_zero, List.set_cons_succ])
      refine wpE_takeS (i := 31) (d := some 111) (v := .agg #[.int .i64 x.fr, .int .i64 x.un, .slice A9 n9 c9, .slice A4 n4 c4]) rfl rfl (by kernel_rfl) (by kernel_rfl) (by kernel_rfl) (by kernel_rfl) (fun _ _ _ h => h) (by rfl) ?hye32 hS0 trivial ?goe32
      case hye32 =>
        intro w9 hT9
        obtain ⟨y0, ⟨y1, y2, y3, y4⟩, ⟨y5, y6, y7, y8⟩, ⟨u1, u2, u3, u4, u5, u6⟩, ⟨v1, v2, v3, v4⟩, x1, x2⟩ := hT9; go_simp
      (try simp only [Act.put, List.setIfInBounds_toArray, List.set_cons_zero, List.set_cons_succ])
      refine wpE_takeS (i := 32) (d := some 112) (v := .agg #[.slice A5 n5 c5, .slice A6 n6 c6]) rfl rfl (by kernel_rfl) (by kernel_rfl) (by kernel_rfl) (by kernel_rfl) (fun _ _ _ h => h) (by rfl) ?hye33 hS0 trivial ?goe33
      case hye33 =>
        intro w9 hT9
        obtain ⟨y0, ⟨y1, y2, y3, y4⟩, ⟨y5, y6, y7, y8⟩, ⟨u1, u2, u3, u4, u5, u6⟩, ⟨v1, v2, v3, v4⟩, x1, x2⟩ := hT9; go_simp
      (try simp only [Act.put, List.setIfInBounds_toArray, List.set_cons_zero, List.set_cons_succ])
      refine wpE_takeS (i := 33) (d := some 113) (v := .slice S m cS) rfl rfl (by kernel_rfl) (by kernel_rfl) (by kernel_rfl) (by kernel_rfl) (fun _ _ _ h => h) (by rfl) ?hye34 hS0 trivial ?goe34
      case hye34 =>
        intro w9 hT9
        clear hT9; go_simp
      (try simp only [Act.put, List.setIfInBounds_toArray, List.set_cons_zero, List.set_cons_succ])
      refine wpE_takeS (i := 34) (d := some 114) (v := .slice (some ⟨bi, oi, none⟩) n1 c1) rfl rfl (by kernel_rfl) (by kernel_rfl) (by kernel_rfl) (by kernel_rfl) (fun _ _ _ h => h) (by rfl) ?hye35 hS0 trivial ?goe35
      case hye35 =>
        intro w9 hT9
        clear hT9; go_simp
      (try simp only [Act.put, List.setIfInBounds_toArray, List.set_cons_zero, List.set_cons_succ])
      refine wpE_takeS (i := 35) (d := some 115) (v := .int .i64 (i : Int)) rfl rfl (by kernel_rfl) (by kernel_rfl) (by kernel_rfl) (by kernel_rfl) (fun _ _ _ h => h) (by rfl) ?hye36 hS0 trivial ?goe36
      case hye36 =>
        intro w9 hT9
        clear hT9; go_simp
      (try simp only [Act.put, List.setIfInBounds_toArray, List.set_cons_zero, List.set_cons_succ])
      refine wpE_takeS (i := 36) (d := some 116) (v := .pointer (some ⟨bi, oi + i * 2, none⟩)) rfl rfl (by kernel_rfl) (by kernel_rfl) (by kernel_rfl) (by kernel_rfl) (fun _ _ _ h => h) (by rfl) ?hye37 hS0 trivial ?goe37
      case hye37 =>
        intro w9 hT9
        clear hT9; go_simp
      (try simp only [Act.put, List.setIfInBounds_toArray, List.set_cons_zero, List.set_cons_succ])
      refine wpE_takeS (i := 37) (d := some 117) (v := .pointer (some ⟨bi, oi + i * 2, none⟩)) rfl rfl (by kernel_rfl) (by kernel_rfl) (by kernel_rfl) (by kernel_rfl) (fun _ _ _ h => h) (by rfl) ?hye38 hS0 trivial ?goe38
      case hye38 =>
        intro w9 hT9
        clear hT9; go_simp
      (try simp only [Act.put, List.setIfInBounds_toArray, List.set_cons_zero, List.set_cons_succ])
      refine wpE_takeS (i := 38) (d := some 118) (v := .string ⟨y.1.toArray⟩) rfl rfl (by kernel_rfl) (by kernel_rfl) (by kernel_rfl) (by kernel_rfl) (fun _ _ _ h => h) (by rfl) ?hye39 hS0 trivial ?goe39
      case hye39 =>
        intro w9 hT9
        obtain ⟨y0, ⟨y1, y2, y3, y4⟩, ⟨y5, y6, y7, y8⟩, ⟨u1, u2, u3, u4, u5, u6⟩, ⟨v1, v2, v3, v4⟩, x1, x2⟩ := hT9; go_simp
      (try simp only [Act.put, List.setIfInBounds_toArray, List.set_cons_zero, List.set_cons_succ])
      refine wpE_takeS (i := 39) (d := some 119) (v := .int .i64 t) rfl rfl (by kernel_rfl) (by kernel_rfl) (by kernel_rfl) (by kernel_rfl) (fun _ _ _ h => h) (by rfl) ?hye40 hS0 trivial ?goe40
      case hye40 =>
        intro w9 hT9
        clear hT9; go_simp
      (try simp only [Act.put, List.setIfInBounds_toArray, List.set_cons_zero, List.set_cons_succ])
      refine wpE_all (rs := [40]) (by kernel_rfl) (by simp) ?_
      refine AllE.cons rfl (fun K hK => ?_) AllE.nil
      simp only [List.getElem_toArray, List.getElem_cons_succ, List.getElem_cons_zero]
      go_simp
      go_at_call 53
      refine (HCA.out _ hcur).mono ?_
      rintro z9 wg ⟨rfl, hxg⟩
      have hcur := hcur.trans hxg
      simp only []
      refine hK.out _ _ ⟨fun _ => (HQF.out _ hcur), trivial⟩ (fun _ => ?_)
      clear hK K
      have hS0 := (HQF.out _ hcur)
      (try simp only [Act.put, List.setIfInBounds_toArray, List.set_cons_zero, List.set_cons_succ])
      refine wpE_takeS (i := 41) (d := some 121) (v := .bool false) rfl rfl (by kernel_rfl) (by kernel_rfl) (by kernel_rfl) (by kernel_rfl) (fun _ _ _ h => h) (by rfl) ?hye41 hS0 trivial ?goe41
      case hye41 =>
        intro w9 hT9
        clear hT9; go_simp
      (try simp only [Act.put, List.setIfInBounds_toArray, List.set_cons_zero, List.set_cons_succ])
      refine wpE_all (rs := [42]) (by kernel_rfl) (by simp) ?_
      refine AllE.cons rfl (fun K hK => ?_) AllE.nil
      simp only [List.getElem_toArray, List.getElem_cons_succ, List.getElem_cons_zero]
      go_simp
      refine hK.out _ _ ⟨fun _ => (HQF.out _ hcur), trivial⟩ (fun _ => ?_)
      clear hK K
      have hS0 := (HQF.out _ hcur)
      (try simp only [Act.put, List.setIfInBounds_toArray, List.set_cons_zero, List.set_cons_succ])
      refine wpE_done (by kernel_rfl) ?_ _
      go_wp2_with fail
      go_roundw
      case rel => exact ⟨k + 1, by omega, by simp, HXF.out.trans hcur⟩
      case measure => simp only [toM]; omega
end Go.Proofs.YtdbnddmncbjobaaGreatDoor
