/- book.all$1: walked (under way). -/
import Derived.Test.YtdbnddmncbjobaaGreatDoorMf
import Derived.Shelf.Abstract
import Derived.WalkKit
import Derived.Shelf.RegionOpen
import Derived.OwnWalkIn
import Derived.LoopNIn
import Derived.LoopIn
import Derived.Test.YtdbnddmncbjobaaGreatDoorMb
import Derived.Deep.RegionHeld3
import Derived.Deep.RegionLaw
import Derived.Test.YtdbnddmncbjobaaGreatDoorMe
import Derived.StillTailTactics
import Derived.Test.YtdbnddmncbjobaaGreatDoorMa
namespace Go.Proofs.YtdbnddmncbjobaaGreatDoor
open Go Go.RowKit

set_option maxHeartbeats 8000000 in
set_option maxRecDepth 100000 in
theorem all1_seq (n : Nat) (w : World) (b : Bk) (bb : Nat) (A : Option Addr) (N c : Nat) (Q0 : Nat → Prop) (hb : BkI b) (hQl : ∀ j, Q0 j → j < w.heap.size) (h4 : Q0 4) (hbb : Q0 bb) (hB : w.heap[bb]? = some (.cells #[.int .i64 b.ms, .int .i64 b.ht, .slice A N c] 27 (0, 0))) (hr : kSe.row w Q0 A N b.secs) (hL : EnvW w) :
    RSeq Fence.wide n Tryz.prog 126 #[.pointer (some ⟨bb, 0, none⟩)] pgEnc pgRp (fun xs => xs.map (·.1) = pagesB b) (fun pre => pre.map (·.1) <+: pagesB b) Q0 w := by
  intro l J Jx W hws hwk hx hJ hJx hY hj0
  refine callsIn_wide.2 ?_
  have hN := Lay.row_len hr
  have hNb : N ≤ 1000000 := by have := hb.s.n; omega
  obtain ⟨B, hBs⟩ : ∃ B, W.heap.size = B := ⟨_, rfl⟩
  rw [hBs] at hJ hJx hY
  have HJ := Lib.hid hJ
  have HJX := Lib.hid hJx
  have HY := Lib.hid hY
  have HBI := Lib.hid hb
  have HQL := Lib.hid hQl
  have HBS := Lib.hid hBs
  have HN := Lib.hid hN
  have HI0 := Lib.hid (fun (w3 : World) (hx3 : Ext W w3) (hB3 : w3.heap[B]? = some (.cells #[.int .i64 0, .int .i64 0] 64 (0, 0))) => show ItC J Q0 B bb b A N c 0 0 [] (Qn Q0 W w3) w3 from
    ⟨hJ _ _ _ _ _ hj0 (Mv.of_ext hx3) (fun j hj => by rcases hj with hj | hj; exact .inl hj; exact .inr (.inl hj.1)), fun j hj => .inl hj, .inr ⟨by omega, lt_of_block hB3⟩,
      fun j hj => by rcases hj with hj | hj; exact Nat.lt_of_lt_of_le (hQl j hj) (Nat.le_trans hws hx3.lt); exact hj.2,
      ((hx.trans hx3).block _ (lt_of_block hB)).trans hB, hB3, Lay.row_ext hr (hx.trans hx3), hL.ext (hx.trans hx3)⟩)
  have hbq : bb < W.heap.size := Nat.lt_of_lt_of_le (lt_of_block hB) hws
  have b2 := cell_of ((hx.block _ (lt_of_block hB)).trans hB) (i := 2) rfl
  clear hJ hJx hY hb hr hL hx hwk hj0 hN hB
  show Calls Tryz.prog 126 #[.func (.yield l) #[] #[], .pointer (some ⟨bb, 0, none⟩)] W _
  go_enter Tryz.func126, Tryz.ntmps126
  go_upto_region 1 with (fail)
  obtain ⟨w3, hw3⟩ : ∃ w3, W.alloc (.cells #[.int .i64 0, .int .i64 0] 64) = w3 := ⟨_, rfl⟩
  rw [hw3]
  have HIC := Lib.hid (HI0.out w3 (by rw [← hw3]; exact (Ext.refl W).alloc _) (by rw [← hw3, ← hBs]; exact heap_alloc_new W _))
  have b2' := cell_of HIC.out.hb (i := 2) rfl
  clear hw3 b2 HI0
  go_wp2_with fail
  go_loopw [5, 6, 7, 8, 9, 11, 16, 24, 40] (fun _ _ _ _ _ _ s16 _ _ w' => ItO J Q0 B bb b A N c s16 w') (fun _ _ _ _ _ _ s16 _ _ _ => toM N s16)
  case atStart => exact ⟨0, 0, 0, [], _, by omega, rfl, HIC.out, ⟨by omega, by simp, by omega, by simp⟩, rfl⟩
  case round =>
    obtain ⟨i, num, suf, pre, Q, hi, rfl, hC, hBd, hS⟩ := hrel
    by_cases hlt : i < N
    case neg =>
      obtain rfl : N = i := by have := HN.out; omega
      have hni : ¬ ((N : Int) < (N : Int)) := by omega
      have HFI := Lib.hid (show ((∃ xs Q, xs.map (·.1) = pagesB b ∧ J xs Q wr) ∨ (∃ pre Q, pre.map (·.1) <+: pagesB b ∧ Jx pre Q wr)) by
        refine .inl ⟨pre, Q, ?_, hC.j⟩
        rw [List.drop_of_length_le (by have := HN.out; omega)] at hS
        simpa [pagesS] using hS)
      clear hS hC
      go_wp2_with fail
      go_end0
      rcases HFI.out with ⟨xs, q, h1, h2⟩ | ⟨xs, q, h1, h2⟩
      · exact ⟨⟨_, rfl⟩, .inl ⟨xs, h1, q, h2⟩⟩
      · exact ⟨⟨_, rfl⟩, .inr ⟨xs, h1, q, h2⟩⟩
    have hI : (i : Int) < (N : Int) := by omega
    obtain ⟨x, hxi⟩ : ∃ x, b.secs[i]? = some x := ⟨_, List.getElem?_eq_getElem (by have := HN.out; omega)⟩
    obtain ⟨bs, os, cs, rfl, hbs, hqs, hrep, hcs⟩ := Lay.row_at hC.row hxi
    obtain ⟨A1, n1, c1, A2, n2, c2, rfl, hn1, hn2, hr1, hr2⟩ := kSe_rep.1 hrep
    have e0 := hcs 0 _ rfl
    have e1 := hcs 1 _ rfl
    have e2 := hcs 2 _ rfl
    have e3 := hcs 3 _ rfl
    rw [kSe_sz] at e0 e1 e2 e3
    rw [Nat.add_zero] at e0
    have HC := Lib.hid hC
    have HS := Lib.hid hS
    have HXI := Lib.hid hxi
    have HR1 := Lib.hid hr1
    have HR2 := Lib.hid hr2
    clear hC hS hxi hr1 hr2 hcs hrep
    go_upto_region 4 with (fail)
    obtain ⟨b5, hb5⟩ : ∃ b5, wr.heap.size = b5 := ⟨_, rfl⟩
    obtain ⟨w4, hw4⟩ : ∃ w4, (wr.alloc (.cells #[.int .i64 x.ent, .bool x.fz, .slice A1 n1 c1, .slice A2 n2 c2] 46)).setCell ⟨B, 1, none⟩ (.int .i64 0) = w4 := ⟨_, rfl⟩
    have hBw : B < wr.heap.size := lt_of_block HC.out.hB
    have HB5 := Lib.hid (show w4.heap[b5]? = some (.cells #[.int .i64 x.ent, .bool x.fz, .slice A1 n1 c1, .slice A2 n2 c2] 46 (0, 0)) by
      rw [← hw4, ← hb5, heap_setCell_other _ ⟨B, 1, none⟩ _ _ (by show wr.heap.size ≠ B; omega)]
      exact heap_alloc_new wr _)
    have hxa : Ext wr (wr.alloc (.cells #[.int .i64 x.ent, .bool x.fz, .slice A1 n1 c1, .slice A2 n2 c2] 46)) := (Ext.refl wr).alloc _
    have hCa := HC.out.ext HJ.out hxa
    have HC4 := Lib.hid (show ItC J Q0 B bb b (some ⟨bs, os, none⟩) N c num 0 pre (Qn Q wr (wr.alloc (.cells #[.int .i64 x.ent, .bool x.fz, .slice A1 n1 c1, .slice A2 n2 c2] 46))) w4 from by
      rw [← hw4]
      refine hCa.set HJ.out (Mv.set _) (by simp) ?_ (by omega) (by have := HQL.out 4 h4; omega) (fun j hj => by have := HQL.out j hj; omega)
      rw [heap_setCell_same _ B 1 _ 64 _ hCa.hB]
      rfl)
    have HQ5 := Lib.hid (show Qn Q wr (wr.alloc (.cells #[.int .i64 x.ent, .bool x.fz, .slice A1 n1 c1, .slice A2 n2 c2] 46)) b5 from .inr ⟨by omega, by rw [World.size_alloc]; omega⟩)
    have y1 := cell_of hCa.hB (i := 1) rfl
    have y2 := frozen_of hCa.hB 1
    have y3 := cell_of HB5.out (i := 3) rfl
    rw [hb5]
    have HR1' := Lib.hid (Lay.row_keep HR1.out (by rw [← hw4]; simp) (W' := w4) fun j hj hl => by
      rw [← hw4, heap_setCell_other _ ⟨B, 1, none⟩ _ _ (by show j ≠ B; have := HQL.out j hj; omega)]
      exact hxa.block j hl)
    have HR2' := Lib.hid (Lay.row_keep HR2.out (by rw [← hw4]; simp) (W' := w4) fun j hj hl => by
      rw [← hw4, heap_setCell_other _ ⟨B, 1, none⟩ _ _ (by show j ≠ B; have := HQL.out j hj; omega)]
      exact hxa.block j hl)
    have HS4 := Lib.hid (show pre.map (·.1) ++ ((pagesV b.ms b.ht x.ent (x.vers.drop 0) (x.texts.drop 0) (decide ((0 : Nat) = 0)) num 0).1 ++ pagesS b.ms b.ht (b.secs.drop (i + 1)) (pagesV b.ms b.ht x.ent (x.vers.drop 0) (x.texts.drop 0) (decide ((0 : Nat) = 0)) num 0).2) = pagesB b by
      have h9 := HS.out
      rw [List.drop_eq_getElem_cons (by have := HN.out; omega), (List.getElem?_eq_some_iff.1 HXI.out).2, pagesS] at h9
      simpa using h9)
    have HL2 := Lib.hid (Lay.row_len HR2.out)
    have hn2b : n2 ≤ 1000000 := by have := HBI.out.s.nt x (List.mem_of_getElem? HXI.out); have := HL2.out; omega
    clear hxa hCa HR1 HR2 HS HC
    go_wp2_with fail
    go_loopw [6, 7, 8, 9, 11, 24, 40] (fun _ _ _ _ _ s24 _ w' => ItM J Q0 B bb b (some ⟨bs, os, none⟩) N c b5 x A1 n1 c1 A2 n2 c2 (b.secs.drop (i + 1)) s24 w') (fun _ _ _ _ _ s24 _ _ => toM n2 s24)
    case atStart => exact ⟨0, num, 0, pre, _, by omega, rfl, HC4.out, ⟨hBd.1, hBd.2.1, by omega, by omega⟩, HQ5.out, HB5.out, HR1'.out, HR2'.out, HS4.out⟩
    case round =>
      clear HC4 HB5 HQ5 HS4 HR1' HR2' hBw
      rename World => wm
      obtain ⟨k, num2, suf2, pre2, Q2, hk, rfl, hC, hBd2, hq5, hB5, hR1, hR2, hS⟩ := hrel
      by_cases hkt : k < n2
      case neg =>
        obtain rfl : n2 = k := by have := HL2.out; omega
        have hnk : ¬ ((n2 : Int) < (n2 : Int)) := by omega
        have HRL := Lib.hid (show ItO J Q0 B bb b (some ⟨bs, os, none⟩) N c (.int .i64 ((i : Int) + 1)) wm by
          refine ⟨i + 1, num2, suf2, pre2, Q2, by have := HN.out; omega, by simp, hC, hBd2, ?_⟩
          rw [List.drop_of_length_le (l := x.texts) (by have := HL2.out; omega), pagesV_nil] at hS
          simpa using hS)
        clear hC hS hR1 hR2 hB5
        go_wp2_with fail
        go_roundw
        case rel => exact HRL.out
        case measure => simp only [toM]; omega
      have hK : (k : Int) < (n2 : Int) := by omega
      obtain ⟨t, hti⟩ : ∃ t, x.texts[k]? = some t := ⟨_, List.getElem?_eq_getElem (by have := HL2.out; omega)⟩
      obtain ⟨bt, ot, ct, rfl, hbt, hqt, hrt, hct⟩ := Lay.row_at hR2 hti
      obtain ⟨A3, n3, c3, A4, n4, c4, rfl, hn3, hn4, hr3, hr4⟩ := kTx_rep.1 hrt
      have g0 := hct 0 _ rfl
      have g1 := hct 1 _ rfl
      rw [kTx_sz] at g0 g1
      rw [Nat.add_zero] at g0
      obtain ⟨b7, hb7⟩ : ∃ b7, wm.heap.size = b7 := ⟨_, rfl⟩
      obtain ⟨w5, hw5⟩ : ∃ w5, wm.alloc (.cells #[.slice A3 n3 c3, .slice A4 n4 c4] 53) = w5 := ⟨_, rfl⟩
      have hx5 : Ext wm w5 := by rw [← hw5]; exact (Ext.refl wm).alloc _
      have HX5 := Lib.hid hx5
      have HPT := Lib.hid (ptext_any Q0 w5 t b.ms b.ht A3 A4 n3 n4 c3 c4 (Lay.row_ext hr3 hx5) (Lay.row_ext hr4 hx5) (HBI.out.tx x (List.mem_of_getElem? HXI.out) t (List.mem_of_getElem? hti)) HBI.out.m0 HBI.out.m1 (hC.env.ext hx5))
      have hB7 : w5.heap[b7]? = some (.cells #[.slice A3 n3 c3, .slice A4 n4 c4] 53 (0, 0)) := by
        rw [← hw5, ← hb7]
        exact heap_alloc_new wm _
      have z0 := cell_of hB7 (i := 0) rfl
      have z1 := cell_of hB7 (i := 1) rfl
      have z2 := cell_of ((hx5.block _ (lt_of_block hC.hb)).trans hC.hb) (i := 0) rfl
      have z3 := cell_of ((hx5.block _ (lt_of_block hC.hb)).trans hC.hb) (i := 1) rfl
      have HC := Lib.hid hC
      have HS := Lib.hid hS
      have HR1 := Lib.hid hR1
      have HR2 := Lib.hid hR2
      have HTI := Lib.hid hti
      have HB5 := Lib.hid hB5
      clear hC hS hR1 hR2 hti hr3 hr4 hrt hct hB5 hx5 hB7
      obtain ⟨pgs, hpg⟩ : ∃ pgs, (textP t b.ms b.ht).2 = pgs := ⟨_, rfl⟩
      rw [hpg] at HPT
      have hpb : pgs.length ≤ 200 := by rw [← hpg]; exact (HBI.out.tx x (List.mem_of_getElem? HXI.out) t (List.mem_of_getElem? HTI.out)).len
      have HLB := Lib.hid (show ∀ p ∈ pgs, p.1.length ≤ 1000 ∧ p.2.length ≤ 1000 from fun p hp => HBI.out.ln x (List.mem_of_getElem? HXI.out) t (List.mem_of_getElem? HTI.out) p (by rw [hpg]; exact hp))
      go_upto_region 8 with (fail)
      clear hw5 hb7
      go_wp2_with (first | (go_at_call 127; refine (HPT.out).mono ?_; rintro e w6 ⟨A6, c6, rfl, ho6, hx6⟩))
      obtain ⟨v, hvi⟩ : ∃ v, x.vers[k]? = some v := ⟨_, List.getElem?_eq_getElem (by have := HBI.out.vs x (List.mem_of_getElem? HXI.out); have := HL2.out; omega)⟩
      have hxm6 : Ext wm w6 := HX5.out.trans hx6
      have HI6 := Lib.hid (show ItI J Q0 B bb b (some ⟨bs, os, none⟩) N c b5 x A1 n1 c1 (some ⟨bt, ot, none⟩) n2 c2 (b.secs.drop (i + 1)) k v pgs A6 w.heap.size (.int .i64 ((0 : Nat) : Int)) w6 by
        refine ⟨0, num2, suf2, pre2, Qn Q2 wm w6, by omega, rfl, HC.out.ext HJ.out hxm6, hBd2, .inl hq5, (hxm6.block _ (lt_of_block HB5.out)).trans HB5.out, Lay.row_ext HR1.out hxm6, Lay.row_ext HR2.out hxm6, ?_, ?_⟩
        · obtain ⟨A9, c9, e9, _, hr9⟩ := own_rowN (Q := fun j => (Qn Q2 wm w6 j ∧ j ≠ b5 ∧ j ≠ B) ∧ w.heap.size ≤ j) ho6 (fun j hj hl => by
            have h1 := HX5.out.lt; have h2 := lt_of_block HB5.out; have h3 := lt_of_block HC.out.hB
            exact ⟨⟨.inr ⟨by omega, hl⟩, by omega, by omega⟩, by omega⟩) (fun j hj hl => by
            have h1 := HX5.out.lt; have h2 := lt_of_block HB5.out; have h3 := lt_of_block HC.out.hB
            exact ⟨⟨.inr ⟨by omega, hl⟩, by omega, by omega⟩, by omega⟩)
          obtain ⟨e1, _, _⟩ := Value.slice.inj e9
          rw [e1]
          rw [List.length_map] at hr9
          exact hr9
        · have h9 := HS.out
          rw [List.drop_eq_getElem_cons (l := x.texts) (by have := HL2.out; omega), (List.getElem?_eq_some_iff.1 HTI.out).2, List.drop_eq_getElem_cons (l := x.vers) (List.getElem?_eq_some_iff.1 hvi).1, (List.getElem?_eq_some_iff.1 hvi).2] at h9
          simp only [pagesV, hpg] at h9
          rw [← h9]
          simp)
      clear ho6 hx6 hxm6 HC HS HR1 HR2 HB5 HPT hq5 hpg
      go_loopw [11, 40] (fun _ s40 w' => ItI J Q0 B bb b (some ⟨bs, os, none⟩) N c b5 x A1 n1 c1 (some ⟨bt, ot, none⟩) n2 c2 (b.secs.drop (i + 1)) k v pgs A6 w.heap.size s40 w') (fun _ s40 _ => toM pgs.length s40)
      case atStart => exact HI6.out
      case round =>
        clear HI6
        rename World => wi
        obtain ⟨p, num3, suf3, pre3, Q3, hp, rfl, hC, hBd3, hq5, hB5, hR1, hR2, hRP, hS⟩ := hrel
        by_cases hpl : p < pgs.length
        case neg =>
          obtain hpe : p = pgs.length := by omega
          have hnp : ¬ ((p : Int) < (pgs.length : Int)) := by omega
          have HRL := Lib.hid (show ItM J Q0 B bb b (some ⟨bs, os, none⟩) N c b5 x A1 n1 c1 (some ⟨bt, ot, none⟩) n2 c2 (b.secs.drop (i + 1)) (.int .i64 ((k : Int) + 1)) wi by
            refine ⟨k + 1, num3, suf3, pre3, Q3, by have := HL2.out; omega, by simp, hC, hBd3, hq5, hB5, hR1, hR2, ?_⟩
            rw [List.drop_of_length_le (l := pgs) (by omega)] at hS
            simpa [pagesT] using hS)
          clear hC hS hR1 hR2 hB5 hRP hpe
          go_wp2_with fail
          go_roundw
          case rel => exact HRL.out
          case measure => simp only [toM]; omega
        have hP : (p : Int) < (pgs.length : Int) := by omega
        obtain ⟨pg, hpi⟩ : ∃ pg, pgs[p]? = some pg := ⟨_, List.getElem?_eq_getElem hpl⟩
        obtain ⟨bp, op, cp, rfl, hbp, hqp, hrp, hcp⟩ := Lay.row_at hRP (i := p) (x := pgOf pg) (by rw [List.getElem?_map, hpi]; rfl)
        obtain ⟨A7, n7, c7, A8, n8, c8, rfl, hn7, hn8, hr7, hr8⟩ := kPg_rep.1 hrp
        have q0 := hcp 0 _ rfl
        have q1 := hcp 1 _ rfl
        have q2 := hcp 2 _ rfl
        have q3 := hcp 3 _ rfl
        have q4 := hcp 4 _ rfl
        have q5 := hcp 5 _ rfl
        rw [kPg_sz] at q0 q1 q2 q3 q4 q5
        rw [Nat.add_zero] at q0
        obtain ⟨b9, hb9⟩ : ∃ b9, wi.heap.size = b9 := ⟨_, rfl⟩
        obtain ⟨w7, hw7⟩ : ∃ w7, wi.alloc (.cells #[.int .i64 (pgOf pg).num, .int .i64 (pgOf pg).suf, .int .i64 (pgOf pg).ent, .int .i64 (pgOf pg).ver, .slice A7 n7 c7, .slice A8 n8 c8] 84) = w7 := ⟨_, rfl⟩
        have hx7 : Ext wi w7 := by rw [← hw7]; exact (Ext.refl wi).alloc _
        have hB9 : w7.heap[b9]? = some (.cells #[.int .i64 (pgOf pg).num, .int .i64 (pgOf pg).suf, .int .i64 (pgOf pg).ent, .int .i64 (pgOf pg).ver, .slice A7 n7 c7, .slice A8 n8 c8] 84 (0, 0)) := by
          rw [← hw7, ← hb9]
          exact heap_alloc_new wi _
        have hBi : B < wi.heap.size := lt_of_block hC.hB
        have hpre : pre3.length + 1 ≤ 1000000 := by
          have h9 := congrArg List.length hS
          rw [List.drop_eq_getElem_cons hpl, pagesT] at h9
          simp only [List.length_append, List.length_map, List.length_cons] at h9
          have := HBI.out.np
          omega
        obtain ⟨hd0, hd1, hd2, hd3⟩ := hBd3
        have HC := Lib.hid hC
        have HS := Lib.hid hS
        have HR1 := Lib.hid hR1
        have HR2 := Lib.hid hR2
        have HB5 := Lib.hid hB5
        have HRP := Lib.hid hRP
        have HR7 := Lib.hid hr7
        have HR8 := Lib.hid hr8
        have HPI := Lib.hid hpi
        have HC7 := Lib.hid (hC.ext HJ.out hx7)
        have HX7 := Lib.hid hx7
        have HB9 := Lib.hid hB9
        have y1 := cell_of HC7.out.hB (i := 0) rfl
        have y2 := frozen_of HC7.out.hB 0
        have y3 := cell_of HC7.out.hB (i := 1) rfl
        have y4 := frozen_of HC7.out.hB 1
        clear hC hS hR1 hR2 hB5 hRP hr7 hr8 hpi hcp hrp hx7 hB9
        have HS7 := Lib.hid (show w7.heap.size = wi.heap.size + 1 by rw [← hw7]; simp)
        go_upto_region 12 with (fail)
        clear hw7
        obtain ⟨bv, ov, cv, rfl, hbv, hqv, hrv, hcv⟩ := Lay.row_at (Lay.row_ext HR1.out HX7.out) hvi
        have hn1k : k < n1 := by have := Lay.row_len HR1.out; have := (List.getElem?_eq_some_iff.1 hvi).1; omega
        have hK1 : (k : Int) < (n1 : Int) := by omega
        obtain rfl : cv = [.int .i64 v] := hrv
        have v0 := hcv 0 _ rfl
        rw [show kInt.sz = 1 from rfl, Nat.mul_one, Nat.add_zero] at v0
        have HB57 := Lib.hid ((HX7.out.block _ (lt_of_block HB5.out)).trans HB5.out)
        have hqlv := HQL.out bv hqv
        have hbB : bv ≠ B := by omega
        have h5B : b5 ≠ B := by
          intro e
          have h9 := HB5.out
          rw [e, HC.out.hB] at h9
          simp at h9
        have h9B : b9 ≠ B := by omega
        clear hcv
        by_cases hk0 : k = 0
        · have hkb : ((k : Int) == 0) = true := by simp [hk0]
          have HK0 := Lib.hid hk0
          clear hk0
          go_upto_region 15 with (fail)
          obtain ⟨w8, hw8⟩ : ∃ w8, w7.setCell ⟨B, 0, none⟩ (.int .i64 (num3 + 1)) = w8 := ⟨_, rfl⟩
          have HC8 := Lib.hid (show ItC J Q0 B bb b (some ⟨bs, os, none⟩) N c (num3 + 1) suf3 pre3 (Qn Q3 wi w7) w8 from by
            rw [← hw8]
            refine HC7.out.set HJ.out (Mv.set _) (by simp) ?_ (by omega) (by have := HQL.out 4 h4; omega) (fun j hj => by have := HQL.out j hj; omega)
            rw [heap_setCell_same _ B 0 _ 64 _ HC7.out.hB]
            rfl)
          have x0 := cell_of HC8.out.hB (i := 0) rfl
          have x1 := cell_of HC8.out.hB (i := 1) rfl
          have hk8 : ∀ q, q ≠ B → w8.heap[q]? = w7.heap[q]? := fun q hq => by rw [← hw8]; exact heap_setCell_other _ ⟨B, 0, none⟩ q _ hq
          have hB58 := (hk8 b5 h5B).trans HB57.out
          have hB98 := (hk8 b9 h9B).trans HB9.out
          have p0 := cell_of hB58 (i := 0) rfl
          have p2 := cell_of hB58 (i := 2) rfl
          have hv8 : w8.cell? ⟨bv, ov + k, none⟩ = some (.int .i64 v) := by
            rw [← hw8]
            exact (World.cell?_setCell_other _ _ _ _ (by intro e; injection e with e; exact hbB e.symm)).trans v0
          have s0 := cell_of hB98 (i := 0) rfl
          have s1 := cell_of hB98 (i := 1) rfl
          have s2 := cell_of hB98 (i := 2) rfl
          have s3 := cell_of hB98 (i := 3) rfl
          have s4 := cell_of hB98 (i := 4) rfl
          have s5 := cell_of hB98 (i := 5) rfl
          have t0 := frozen_of hB98 0
          have t1 := frozen_of hB98 1
          have t2 := frozen_of hB98 2
          have t3 := frozen_of hB98 3
          have hb59 : ¬ b5 = b9 := by have := lt_of_block HB5.out; omega
          have hbv9 : ¬ bv = b9 := by omega
          have hBn9 : ¬ B = b9 := by omega
          have hb95 : b9 ≠ b5 := fun e => hb59 e.symm
          have hb9v : b9 ≠ bv := fun e => hbv9 e.symm
          rw [hw8]
          have hsz8 : w8.heap.size = w7.heap.size := by rw [← hw8]; simp
          have HB98 := Lib.hid hB98
          have HMV8 := Lib.hid (show Mv B wi w8 by rw [← hw8]; exact (Mv.of_ext HX7.out).trans (Mv.set _))
          clear hw8 hB58 hB98 y1 y2 y3 y4 v0 q0 q1 q2 q3 q4 q5
          go_region_held3 (fun W => W.cell? ⟨B, 0, none⟩ = some (.int .i64 (num3 + 1)) ∧ W.cell? ⟨B, 1, none⟩ = some (.int .i64 suf3) ∧ W.cell? ⟨b5, 0, none⟩ = some (.int .i64 x.ent) ∧ W.cell? ⟨b5, 2, none⟩ = some (.slice (some ⟨bv, ov, none⟩) n1 c1) ∧ W.cell? ⟨bv, ov + k, none⟩ = some (.int .i64 v)) (go_keep) (fail)
          all_goals
            obtain ⟨w9, hw9⟩ : ∃ w9, ((((w8.setCell ⟨b9, 0, none⟩ (.int .i64 (num3 + 1))).setCell ⟨b9, 1, none⟩ (.int .i64 suf3)).setCell ⟨b9, 2, none⟩ (.int .i64 x.ent)).setCell ⟨b9, 3, none⟩ (.int .i64 v)).drew = w9 := ⟨_, rfl⟩
            rw [hw9]
            have hk9 : ∀ q, q ≠ b9 → w9.heap[q]? = w8.heap[q]? := fun q hq => by
              rw [← hw9]
              exact (heap_setCell_other _ ⟨b9, 3, none⟩ q _ hq).trans ((heap_setCell_other _ ⟨b9, 2, none⟩ q _ hq).trans ((heap_setCell_other _ ⟨b9, 1, none⟩ q _ hq).trans (heap_setCell_other _ ⟨b9, 0, none⟩ q _ hq)))
            have hsz9 : w9.heap.size = w7.heap.size := by rw [← hw9]; rw [← hsz8]; simp
            have hmv9 : Mv B wi w9 := by
              rw [← hw9]
              exact ((((HMV8.out.setNew (p := ⟨b9, 0, none⟩) (by show wi.heap.size ≤ b9; omega) _).setNew (p := ⟨b9, 1, none⟩) (by show wi.heap.size ≤ b9; omega) _).setNew (p := ⟨b9, 2, none⟩) (by show wi.heap.size ≤ b9; omega) _).setNew (p := ⟨b9, 3, none⟩) (by show wi.heap.size ≤ b9; omega) _).trans (Mv.of_ext (Ext.refl _).drew)
            have hC9l : wi.heap.size ≤ w9.heap.size := by have := HX7.out.lt; omega
            have HC9 := Lib.hid (show ItC J Q0 B bb b (some ⟨bs, os, none⟩) N c (num3 + 1) suf3 pre3 (Qn Q3 wi w9) w9 from
              HC.out.mv HJ.out hmv9 (by have := HX7.out.lt; omega) ((hk9 B (by omega)).trans HC8.out.hB) (by omega) (by have := HQL.out 4 h4; omega) (fun j hj => by have := HQL.out j hj; omega))
            have HB99 := Lib.hid (show w9.heap[b9]? = some (.cells #[.int .i64 (num3 + 1), .int .i64 suf3, .int .i64 x.ent, .int .i64 v, .slice A7 n7 c7, .slice A8 n8 c8] 84 (0, 0)) by
              rw [← hw9]
              exact heap_setCell_same _ b9 3 _ 84 _ (heap_setCell_same _ b9 2 _ 84 _ (heap_setCell_same _ b9 1 _ 84 _ (heap_setCell_same _ b9 0 _ 84 _ HB98.out))))
            have HRp := Lib.hid (show pgRp (fun j => (Qn Q3 wi w9 j ∧ j ≠ B) ∧ w.heap.size ≤ j) (⟨(num3 + 1), suf3, x.ent, v, pg.1, pg.2⟩, (A7, n7, c7), (A8, n8, c8)) w9 from
              ⟨hn7, hn8, Lay.row_mono (Lay.row_keep HR7.out hC9l fun j hj hl => hmv9.keep j hj.1.2.2 hl) fun j hj _ => ⟨⟨.inl hj.1.1, hj.1.2.2⟩, hj.2⟩, Lay.row_mono (Lay.row_keep HR8.out hC9l fun j hj hl => hmv9.keep j hj.1.2.2 hl) fun j hj _ => ⟨⟨.inl hj.1.1, hj.1.2.2⟩, hj.2⟩, HLB.out pg (List.mem_of_getElem? HPI.out)⟩)
            have hq0B : ∀ j, Q0 j → j ≠ B := fun j hj => by have := HQL.out j hj; omega
            have HNX := Lib.hid (fun (W2 : World) (hJ2 : J (pre3 ++ [(⟨(num3 + 1), suf3, x.ent, v, pg.1, pg.2⟩, (A7, n7, c7), (A8, n8, c8))]) (Qn Q3 wi w9) W2) (hk2 : ∀ j, Qn Q3 wi w9 j → W2.heap[j]? = w9.heap[j]?) =>
              show ItI J Q0 B bb b (some ⟨bs, os, none⟩) N c b5 x (some ⟨bv, ov, none⟩) n1 c1 (some ⟨bt, ot, none⟩) n2 c2 (b.secs.drop (i + 1)) k v pgs (some ⟨bp, op, none⟩) w.heap.size (.int .i64 ((p : Int) + 1)) W2 from
              itI_next HPI.out hbb h4 (by rw [show stN k num3 = (num3 + 1) from (if_pos HK0.out), show stS k suf3 = suf3 from (if_pos HK0.out)]; exact HC9.out) (.inr ⟨by have := HS7.out; omega, by have := HS7.out; omega⟩) ⟨hd0, hd1, hd2, hd3⟩ hq5
                ((hmv9.keep b5 h5B (lt_of_block HB5.out)).trans HB5.out) (Lay.row_keep HR1.out hC9l fun j hj hl => hmv9.keep j (hq0B j hj) hl) (Lay.row_keep HR2.out hC9l fun j hj hl => hmv9.keep j (hq0B j hj) hl)
                (Lay.row_keep HRP.out hC9l fun j hj hl => hmv9.keep j hj.1.2.2 hl) HS.out (by rw [show stN k num3 = (num3 + 1) from (if_pos HK0.out), show stS k suf3 = suf3 from (if_pos HK0.out)]) hJ2 hk2)
            have HST := Lib.hid (show (pre3 ++ [((⟨(num3 + 1), suf3, x.ent, v, pg.1, pg.2⟩, (A7, n7, c7), (A8, n8, c8)) : PgV)]).map (·.1) <+: pagesB b from
              itI_stop HPI.out HS.out (by rw [show stN k num3 = (num3 + 1) from (if_pos HK0.out), show stS k suf3 = suf3 from (if_pos HK0.out)]))
            obtain ⟨fn, tm, asg, bod, hy, hRo⟩ := HY.out pre3 (⟨(num3 + 1), suf3, x.ent, v, pg.1, pg.2⟩, (A7, n7, c7), (A8, n8, c8)) (Qn Q3 wi w9) w9 HC9.out.j HRp.out HC9.out.lt (by omega) HST.out
            dsimp only [pgEnc] at hy
            have r0 := cell_of HB99.out (i := 0) rfl
            have r1 := cell_of HB99.out (i := 1) rfl
            have r2 := cell_of HB99.out (i := 2) rfl
            have r3 := cell_of HB99.out (i := 3) rfl
            have r4 := cell_of HB99.out (i := 4) rfl
            have r5 := cell_of HB99.out (i := 5) rfl
            clear hw9 hk9 hmv9 hsz9 hsz8 hk8 p0 p2 hv8 s0 s1 s2 s3 s4 s5 t0 t1 t2 t3 x0 x1
            go_upto_region 16 with (fail)
            refine (wpIn_wide (n := n)).1 ?_
            gi_wp2
            refine ⟨fun h => by simp [Fence.wide] at h, hRo.mono ?_⟩
            rintro e W2 (⟨rfl, hJ2, hk2⟩ | ⟨rfl, hJx2⟩)
            · have HN2 := Lib.hid (HNX.out W2 hJ2 hk2)
              clear hJ2 hk2 HX5 HC9 HB99 HRp
              dsimp only
              gi_wp2
              go_wp2_with fail
              go_roundw
              case rel => exact HN2.out
              case measure => simp only [toM]; omega
            · have HX2 := Lib.hid (show (∃ pre Q, pre.map (·.1) <+: pagesB b ∧ Jx pre Q W2) from ⟨_, _, HST.out, hJx2⟩)
              clear hJx2 HX5 HC9 HB99 HRp
              dsimp only
              gi_wp2
              go_wp2_with fail
              refine bodyPost_ret (results_none rfl _ _ _) rfl ?_
              exact ⟨⟨_, rfl⟩, .inr (by obtain ⟨q1, q2, h1, h2⟩ := HX2.out; exact ⟨q1, q2, h1, h2⟩)⟩
        · have hkb : ((k : Int) == 0) = false := by simp; omega
          have HK0 := Lib.hid hk0
          clear hk0
          go_upto_region 15 with (fail)
          obtain ⟨w8, hw8⟩ : ∃ w8, w7.setCell ⟨B, 1, none⟩ (.int .i64 (suf3 + 1)) = w8 := ⟨_, rfl⟩
          have HC8 := Lib.hid (show ItC J Q0 B bb b (some ⟨bs, os, none⟩) N c num3 (suf3 + 1) pre3 (Qn Q3 wi w7) w8 from by
            rw [← hw8]
            refine HC7.out.set HJ.out (Mv.set _) (by simp) ?_ (by omega) (by have := HQL.out 4 h4; omega) (fun j hj => by have := HQL.out j hj; omega)
            rw [heap_setCell_same _ B 1 _ 64 _ HC7.out.hB]
            rfl)
          have x0 := cell_of HC8.out.hB (i := 0) rfl
          have x1 := cell_of HC8.out.hB (i := 1) rfl
          have hk8 : ∀ q, q ≠ B → w8.heap[q]? = w7.heap[q]? := fun q hq => by rw [← hw8]; exact heap_setCell_other _ ⟨B, 1, none⟩ q _ hq
          have hB58 := (hk8 b5 h5B).trans HB57.out
          have hB98 := (hk8 b9 h9B).trans HB9.out
          have p0 := cell_of hB58 (i := 0) rfl
          have p2 := cell_of hB58 (i := 2) rfl
          have hv8 : w8.cell? ⟨bv, ov + k, none⟩ = some (.int .i64 v) := by
            rw [← hw8]
            exact (World.cell?_setCell_other _ _ _ _ (by intro e; injection e with e; exact hbB e.symm)).trans v0
          have s0 := cell_of hB98 (i := 0) rfl
          have s1 := cell_of hB98 (i := 1) rfl
          have s2 := cell_of hB98 (i := 2) rfl
          have s3 := cell_of hB98 (i := 3) rfl
          have s4 := cell_of hB98 (i := 4) rfl
          have s5 := cell_of hB98 (i := 5) rfl
          have t0 := frozen_of hB98 0
          have t1 := frozen_of hB98 1
          have t2 := frozen_of hB98 2
          have t3 := frozen_of hB98 3
          have hb59 : ¬ b5 = b9 := by have := lt_of_block HB5.out; omega
          have hbv9 : ¬ bv = b9 := by omega
          have hBn9 : ¬ B = b9 := by omega
          have hb95 : b9 ≠ b5 := fun e => hb59 e.symm
          have hb9v : b9 ≠ bv := fun e => hbv9 e.symm
          rw [hw8]
          have hsz8 : w8.heap.size = w7.heap.size := by rw [← hw8]; simp
          have HB98 := Lib.hid hB98
          have HMV8 := Lib.hid (show Mv B wi w8 by rw [← hw8]; exact (Mv.of_ext HX7.out).trans (Mv.set _))
          clear hw8 hB58 hB98 y1 y2 y3 y4 v0 q0 q1 q2 q3 q4 q5
          go_region_held3 (fun W => W.cell? ⟨B, 0, none⟩ = some (.int .i64 num3) ∧ W.cell? ⟨B, 1, none⟩ = some (.int .i64 (suf3 + 1)) ∧ W.cell? ⟨b5, 0, none⟩ = some (.int .i64 x.ent) ∧ W.cell? ⟨b5, 2, none⟩ = some (.slice (some ⟨bv, ov, none⟩) n1 c1) ∧ W.cell? ⟨bv, ov + k, none⟩ = some (.int .i64 v)) (go_keep) (fail)
          all_goals
            obtain ⟨w9, hw9⟩ : ∃ w9, ((((w8.setCell ⟨b9, 0, none⟩ (.int .i64 num3)).setCell ⟨b9, 1, none⟩ (.int .i64 (suf3 + 1))).setCell ⟨b9, 2, none⟩ (.int .i64 x.ent)).setCell ⟨b9, 3, none⟩ (.int .i64 v)).drew = w9 := ⟨_, rfl⟩
            rw [hw9]
            have hk9 : ∀ q, q ≠ b9 → w9.heap[q]? = w8.heap[q]? := fun q hq => by
              rw [← hw9]
              exact (heap_setCell_other _ ⟨b9, 3, none⟩ q _ hq).trans ((heap_setCell_other _ ⟨b9, 2, none⟩ q _ hq).trans ((heap_setCell_other _ ⟨b9, 1, none⟩ q _ hq).trans (heap_setCell_other _ ⟨b9, 0, none⟩ q _ hq)))
            have hsz9 : w9.heap.size = w7.heap.size := by rw [← hw9]; rw [← hsz8]; simp
            have hmv9 : Mv B wi w9 := by
              rw [← hw9]
              exact ((((HMV8.out.setNew (p := ⟨b9, 0, none⟩) (by show wi.heap.size ≤ b9; omega) _).setNew (p := ⟨b9, 1, none⟩) (by show wi.heap.size ≤ b9; omega) _).setNew (p := ⟨b9, 2, none⟩) (by show wi.heap.size ≤ b9; omega) _).setNew (p := ⟨b9, 3, none⟩) (by show wi.heap.size ≤ b9; omega) _).trans (Mv.of_ext (Ext.refl _).drew)
            have hC9l : wi.heap.size ≤ w9.heap.size := by have := HX7.out.lt; omega
            have HC9 := Lib.hid (show ItC J Q0 B bb b (some ⟨bs, os, none⟩) N c num3 (suf3 + 1) pre3 (Qn Q3 wi w9) w9 from
              HC.out.mv HJ.out hmv9 (by have := HX7.out.lt; omega) ((hk9 B (by omega)).trans HC8.out.hB) (by omega) (by have := HQL.out 4 h4; omega) (fun j hj => by have := HQL.out j hj; omega))
            have HB99 := Lib.hid (show w9.heap[b9]? = some (.cells #[.int .i64 num3, .int .i64 (suf3 + 1), .int .i64 x.ent, .int .i64 v, .slice A7 n7 c7, .slice A8 n8 c8] 84 (0, 0)) by
              rw [← hw9]
              exact heap_setCell_same _ b9 3 _ 84 _ (heap_setCell_same _ b9 2 _ 84 _ (heap_setCell_same _ b9 1 _ 84 _ (heap_setCell_same _ b9 0 _ 84 _ HB98.out))))
            have HRp := Lib.hid (show pgRp (fun j => (Qn Q3 wi w9 j ∧ j ≠ B) ∧ w.heap.size ≤ j) (⟨num3, (suf3 + 1), x.ent, v, pg.1, pg.2⟩, (A7, n7, c7), (A8, n8, c8)) w9 from
              ⟨hn7, hn8, Lay.row_mono (Lay.row_keep HR7.out hC9l fun j hj hl => hmv9.keep j hj.1.2.2 hl) fun j hj _ => ⟨⟨.inl hj.1.1, hj.1.2.2⟩, hj.2⟩, Lay.row_mono (Lay.row_keep HR8.out hC9l fun j hj hl => hmv9.keep j hj.1.2.2 hl) fun j hj _ => ⟨⟨.inl hj.1.1, hj.1.2.2⟩, hj.2⟩, HLB.out pg (List.mem_of_getElem? HPI.out)⟩)
            have hq0B : ∀ j, Q0 j → j ≠ B := fun j hj => by have := HQL.out j hj; omega
            have HNX := Lib.hid (fun (W2 : World) (hJ2 : J (pre3 ++ [(⟨num3, (suf3 + 1), x.ent, v, pg.1, pg.2⟩, (A7, n7, c7), (A8, n8, c8))]) (Qn Q3 wi w9) W2) (hk2 : ∀ j, Qn Q3 wi w9 j → W2.heap[j]? = w9.heap[j]?) =>
              show ItI J Q0 B bb b (some ⟨bs, os, none⟩) N c b5 x (some ⟨bv, ov, none⟩) n1 c1 (some ⟨bt, ot, none⟩) n2 c2 (b.secs.drop (i + 1)) k v pgs (some ⟨bp, op, none⟩) w.heap.size (.int .i64 ((p : Int) + 1)) W2 from
              itI_next HPI.out hbb h4 (by rw [show stN k num3 = num3 from (if_neg HK0.out), show stS k suf3 = (suf3 + 1) from (if_neg HK0.out)]; exact HC9.out) (.inr ⟨by have := HS7.out; omega, by have := HS7.out; omega⟩) ⟨hd0, hd1, hd2, hd3⟩ hq5
                ((hmv9.keep b5 h5B (lt_of_block HB5.out)).trans HB5.out) (Lay.row_keep HR1.out hC9l fun j hj hl => hmv9.keep j (hq0B j hj) hl) (Lay.row_keep HR2.out hC9l fun j hj hl => hmv9.keep j (hq0B j hj) hl)
                (Lay.row_keep HRP.out hC9l fun j hj hl => hmv9.keep j hj.1.2.2 hl) HS.out (by rw [show stN k num3 = num3 from (if_neg HK0.out), show stS k suf3 = (suf3 + 1) from (if_neg HK0.out)]) hJ2 hk2)
            have HST := Lib.hid (show (pre3 ++ [((⟨num3, (suf3 + 1), x.ent, v, pg.1, pg.2⟩, (A7, n7, c7), (A8, n8, c8)) : PgV)]).map (·.1) <+: pagesB b from
              itI_stop HPI.out HS.out (by rw [show stN k num3 = num3 from (if_neg HK0.out), show stS k suf3 = (suf3 + 1) from (if_neg HK0.out)]))
            obtain ⟨fn, tm, asg, bod, hy, hRo⟩ := HY.out pre3 (⟨num3, (suf3 + 1), x.ent, v, pg.1, pg.2⟩, (A7, n7, c7), (A8, n8, c8)) (Qn Q3 wi w9) w9 HC9.out.j HRp.out HC9.out.lt (by omega) HST.out
            dsimp only [pgEnc] at hy
            have r0 := cell_of HB99.out (i := 0) rfl
            have r1 := cell_of HB99.out (i := 1) rfl
            have r2 := cell_of HB99.out (i := 2) rfl
            have r3 := cell_of HB99.out (i := 3) rfl
            have r4 := cell_of HB99.out (i := 4) rfl
            have r5 := cell_of HB99.out (i := 5) rfl
            clear hw9 hk9 hmv9 hsz9 hsz8 hk8 p0 p2 hv8 s0 s1 s2 s3 s4 s5 t0 t1 t2 t3 x0 x1
            go_upto_region 16 with (fail)
            refine (wpIn_wide (n := n)).1 ?_
            gi_wp2
            refine ⟨fun h => by simp [Fence.wide] at h, hRo.mono ?_⟩
            rintro e W2 (⟨rfl, hJ2, hk2⟩ | ⟨rfl, hJx2⟩)
            · have HN2 := Lib.hid (HNX.out W2 hJ2 hk2)
              clear hJ2 hk2 HX5 HC9 HB99 HRp
              dsimp only
              gi_wp2
              go_wp2_with fail
              go_roundw
              case rel => exact HN2.out
              case measure => simp only [toM]; omega
            · have HX2 := Lib.hid (show (∃ pre Q, pre.map (·.1) <+: pagesB b ∧ Jx pre Q W2) from ⟨_, _, HST.out, hJx2⟩)
              clear hJx2 HX5 HC9 HB99 HRp
              dsimp only
              gi_wp2
              go_wp2_with fail
              refine bodyPost_ret (results_none rfl _ _ _) rfl ?_
              exact ⟨⟨_, rfl⟩, .inr (by obtain ⟨q1, q2, h1, h2⟩ := HX2.out; exact ⟨q1, q2, h1, h2⟩)⟩
end Go.Proofs.YtdbnddmncbjobaaGreatDoor

/- A range over a function whose loop variable is laid in a block by the assignment. -/
namespace Go.Proofs.YtdbnddmncbjobaaGreatDoor
open Go Go.RowKit

theorem rangeH {α : Type} {F : Fence} {n : Nat} {P : Program} {g : Operand} {ps : Array Tmp} {assign body : Code} {Q : Exit → Act → World → Prop} {a : Act} {w : World}
    (hro : F.round = none) (h1 : 1 ≤ n) {gf : Nat} {lb : Array Value} (hg : a.eval g = .func (.func gf) #[] lb) (hFg : F.fn gf) (eg : ∀ args w, (callFunc gf args).run P w = .ok (.enter gf args) w)
    {encs : α → Array Value} {Rp : (Nat → Prop) → α → World → Prop} {S Sp : List α → Prop} {Q0 : Nat → Prop} (hseq : RSeq F (n - 1) P gf lb encs Rp S Sp Q0 w) (hps : ∀ x, (encs x).size = ps.size)
    (hRp : ∀ q x W l o', Rp q x W → (∀ j, q j → j ≠ l) → Rp q x (W.putObj l o'))
    (I : List α → (Nat → Prop) → World → Prop) (Ix : Code → List α → (Nat → Prop) → World → Prop) (hI : AbMv (w.heap.size + 2) I) (hIx : ∀ c, AbMv (w.heap.size + 2) (Ix c))
    (hIp : ∀ s q W o', I s q W → I s q (W.putObj (w.heap.size + 1) o')) (hIxp : ∀ c s q W o', Ix c s q W → Ix c s q (W.putObj (w.heap.size + 1) o'))
    (_hQ0 : ∀ j, Q0 j → j < w.heap.size) (hIQ : ∀ s q W, I s q W → ∀ j, q j → j ≠ w.heap.size ∧ j ≠ w.heap.size + 1)
    (h0 : ∀ W, Ext w W → W.heap.size = w.heap.size + 2 → I [] Q0 W) (Ax : α → (Nat → Prop) → Act → World → Prop) (hAp : ∀ x q a' W o', Ax x q a' W → Ax x q a' (W.putObj (w.heap.size + 1) o')) (hRx : ∀ q x W W', Rp q x W → Ext W W' → Rp q x W')
    (hassign : ∀ (l : Nat) (x : α) (q : Nat → Prop) (W : World) (K : Act → World → Prop), Rp q x W → w.heap.size + 2 < W.heap.size → (∀ j, q j → j < W.heap.size) → (∀ a' W', Ext W W' → Ax x q a' W' → K a' W') →
      assign.wpIn (F.inRound l) (n - 1 - 1) P (Exit.then K (fun _ _ _ => False)) { tmps := (ps.zip (encs x)).foldl (fun t (p, v) => t.setIfInBounds p v) a.tmps, defers := [] } W)
    (hbody : ∀ (pre : List α) (x : α) (q : Nat → Prop) (a' : Act) (W : World), I pre q W → Rp (fun j => (q j ∧ j ≠ w.heap.size + 2) ∧ w.heap.size ≤ j) x W → Ax x (fun j => (q j ∧ j ≠ w.heap.size + 2) ∧ w.heap.size ≤ j) a' W → (∀ j, q j → j < W.heap.size) → w.heap.size + 2 < W.heap.size → Sp (pre ++ [x]) → body.wpIn (F.inRound (w.heap.size + 1)) (n - 1 - 1) P (rgPost (w.heap.size + 1) w.heap.size q I Ix (pre ++ [x]) W) a' W)
    (hdone : ∀ (xs : List α) (q : Nat → Prop) (W : World), S xs → I xs q W → W.heap[w.heap.size]? = some (.deferred (some [])) → Q .normal { a with defers := { target := .collected w.heap.size, args := #[] } :: a.defers } W)
    (hstop : ∀ (c : Code) (pre : List α) (q : Nat → Prop) (W : World), Sp pre → Ix c pre q W → W.heap[w.heap.size]? = some (.deferred (some [])) → c.wpIn F n P Q { a with defers := { target := .collected w.heap.size, args := #[] } :: a.defers } W) :
    (Code.rangeFunc g ps assign body).wpIn F n P Q a w := by
  refine wpIn_rangeFunc ?_
  intro fn hfn
  rw [hro]
  obtain ⟨rec, hrec⟩ : ∃ rec : LoopState → Option Code → Loop, rec = fun st pe => { state := st, pending := pe, fn, tmps := a.tmps, params := ps, assign, body, defers := w.heap.size } := ⟨_, rfl⟩
  obtain ⟨W1, hW1⟩ : ∃ W1, (w.alloc (.deferred (some []))).alloc (.loop (rec .ready none)) = W1 := ⟨_, rfl⟩
  have hx1 : Ext w W1 := by rw [← hW1]; exact ((Ext.refl w).alloc _).alloc _
  have hs1 : W1.heap.size = w.heap.size + 2 := by rw [← hW1]; simp
  have hL1 : W1.heap[w.heap.size + 1]? = some (.loop (rec .ready none)) := by
    rw [← hW1]; have := World.alloc_heap_new (w.alloc (.deferred (some []))) (.loop (rec .ready none)); rwa [World.size_alloc] at this
  have hK1 : W1.heap[w.heap.size]? = some (.deferred (some [])) := by
    rw [← hW1]; exact (Below.heap_alloc _ _ _ (by simp)).trans (World.alloc_heap_new w _)
  refine ⟨w.heap.size + 1, [{ target := .collected w.heap.size, args := #[] }], W1, { target := .fn (.func gf) lb, args := #[.func (.yield (w.heap.size + 1)) #[] #[]] }, W1, gf,
    #[.func (.yield (w.heap.size + 1)) #[] #[]] ++ lb, W1, ?_, ?_, ?_, ?_, fun _ => h1, ?_⟩
  · rw [← hW1, hrec]; exact run_enterLoop_outer _ _ _ _ _
  · simp only [resolve, hg]
    simp [go_sem]
  · intro f' hf'; simp [Target.leads] at hf'; subst hf'; exact hFg
  · simp [invoke, go_sem, eg]
  · have hne : ∀ {A B : World} {k : Nat} {o : Obj}, k < w.heap.size + 2 → Mv W1.heap.size A B → A.heap[k]? = some o → B.heap[k]? = some o := fun hk hm ho => hm.blk (by omega) ho
    refine (hseq (w.heap.size + 1)
      (fun pre q W => I pre q W ∧ W.heap[w.heap.size + 1]? = some (.loop (rec .ready none)) ∧ W.heap[w.heap.size]? = some (.deferred (some [])))
      (fun pre q W => ∃ c, Ix c pre q W ∧ W.heap[w.heap.size + 1]? = some (.loop (rec .done (some c))) ∧ W.heap[w.heap.size]? = some (.deferred (some [])))
      W1 hx1.lt (fun j hj => hx1.block j hj) hx1
      (fun s q q' A B hs hm hq => ⟨hI s q q' A B hs.1 (by rw [← hs1]; exact hm) (by rw [← hs1]; exact hq), hne (by omega) hm hs.2.1, hne (by omega) hm hs.2.2⟩)
      (fun s q q' A B hs hm hq => by
        obtain ⟨c, hc, hl, hk⟩ := hs
        exact ⟨c, hIx c s q q' A B hc (by rw [← hs1]; exact hm) (by rw [← hs1]; exact hq), hne (by omega) hm hl, hne (by omega) hm hk⟩)
      ?_ ⟨h0 W1 hx1 hs1, hL1, hK1⟩).mono ?_
    · rintro pre x q W ⟨hi, hl, hk⟩ hrp hqs hlen hsp
      have hlt : w.heap.size + 1 < W.heap.size := (Array.getElem?_eq_some_iff.1 hl).1
      have hq1 := hIQ _ _ _ hi
      have hy := run_yield (P := P) (args := encs x) hl (by rw [hrec]; exact hps x)
      rw [hrec] at hy
      refine ⟨fn, _, assign, body, hy, roundIn_of_wpIn hfn (hassign _ x (fun j => (q j ∧ j ≠ w.heap.size + 2) ∧ w.heap.size ≤ j) W _ (by rw [← hs1]; exact hrp) (by rw [← hs1]; exact hlen) (fun j hj => hqs j hj.1.1) fun a' W' hx hax => ?_)⟩
      have hl' : W'.heap[w.heap.size + 1]? = some (.loop (rec .ready none)) := (hx.block _ hlt).trans hl
      have hk' : W'.heap[w.heap.size]? = some (.deferred (some [])) := (hx.block _ (by omega)).trans hk
      have hlt' : w.heap.size + 1 < W'.heap.size := Nat.lt_of_lt_of_le hlt hx.lt
      refine ⟨_, run_beginRound hl' (by rw [hrec]), ?_⟩
      obtain ⟨W2, hW2⟩ : ∃ W2, W2 = W'.putObj (w.heap.size + 1) (.loop { rec .ready none with state := .busy }) := ⟨_, rfl⟩
      rw [← hW2]
      have hl2 : W2.heap[w.heap.size + 1]? = some (.loop { rec .ready none with state := .busy }) := by rw [hW2]; exact World.putObj_heap_same hlt'
      have hk2 : W2.heap[w.heap.size]? = some (.deferred (some [])) := by rw [hW2]; exact (World.putObj_heap_other (by omega)).trans hk'
      have hq2 : ∀ j, q j → W2.heap[j]? = W.heap[j]? := fun j hj => by rw [hW2]; exact (World.putObj_heap_other (hq1 j hj).2).trans (hx.block j (hqs j hj))
      have hsz2 : W2.heap.size = W'.heap.size := by rw [hW2]; simp
      have hi' : I pre q W' := hI _ _ _ _ _ hi (Mv.of_ext hx) fun j hj => .inl hj
      refine wpIn_mono (hbody pre x q a' W2 (by rw [hW2]; exact hIp _ _ _ _ hi') (by rw [hW2]; exact hRp _ _ _ _ _ (hRx _ _ _ _ (by rw [← hs1]; exact hrp) hx) fun j hj => (hq1 j hj.1.1).2) (by rw [hW2]; exact hAp _ _ _ _ _ hax) (fun j hj => by rw [hsz2]; exact Nat.lt_of_lt_of_le (hqs j hj) hx.lt) (by rw [hsz2, ← hs1]; exact Nat.lt_of_lt_of_le hlen hx.lt) hsp) ?_
      have fin : ∀ (jump : Option Code) (W3 : World), W3.heap[w.heap.size + 1]? = W2.heap[w.heap.size + 1]? → W3.heap[w.heap.size]? = W2.heap[w.heap.size]? →
          (Instr.endRound (w.heap.size + 1) jump).run P W3 = .ok (.bool jump.isNone) (W3.putObj (w.heap.size + 1) (.loop (rec (if jump.isNone then .ready else .done) jump))) ∧
          (W3.putObj (w.heap.size + 1) (.loop (rec (if jump.isNone then .ready else .done) jump))).heap[w.heap.size + 1]? = some (.loop (rec (if jump.isNone then .ready else .done) jump)) ∧
          (W3.putObj (w.heap.size + 1) (.loop (rec (if jump.isNone then .ready else .done) jump))).heap[w.heap.size]? = some (.deferred (some [])) := fun jump W3 e1 e2 => by
        have hl3 := e1.trans hl2
        have := run_endRound (P := P) jump hl3
        rw [hrec] at this ⊢
        exact ⟨this, World.putObj_heap_same (Array.getElem?_eq_some_iff.1 hl3).1, (World.putObj_heap_other (by omega)).trans (e2.trans hk2)⟩
      rintro e a3 W3 hp
      cases e with
      | normal =>
        obtain ⟨⟨hk3, hd3⟩, hq3, hi3⟩ := hp
        obtain ⟨hr, hl4, hk4⟩ := fin none W3 hk3 hd3
        exact ⟨_, _, hr, .inl ⟨rfl, ⟨hIp _ _ _ _ hi3, hl4, hk4⟩, fun j hj => (World.putObj_heap_other (hq1 j hj).2).trans ((hq3 j hj).trans (hq2 j hj))⟩⟩
      | ret =>
        obtain ⟨⟨hk3, hd3⟩, hi3⟩ := hp
        obtain ⟨hr, hl4, hk4⟩ := fin (some .ret) W3 hk3 hd3
        exact ⟨_, _, hr, .inr ⟨rfl, .ret, hIxp _ _ _ _ _ hi3, hl4, hk4⟩⟩
      | exit id =>
        obtain ⟨⟨hk3, hd3⟩, hi3⟩ := hp
        obtain ⟨hr, hl4, hk4⟩ := fin (some (.exit id)) W3 hk3 hd3
        exact ⟨_, _, hr, .inr ⟨rfl, .exit id, hIxp _ _ _ _ _ hi3, hl4, hk4⟩⟩
      | goto t =>
        obtain ⟨⟨hk3, hd3⟩, hi3⟩ := hp
        obtain ⟨hr, hl4, hk4⟩ := fin (some (.goto t)) W3 hk3 hd3
        exact ⟨_, _, hr, .inr ⟨rfl, .goto t, hIxp _ _ _ _ _ hi3, hl4, hk4⟩⟩
      | panic ch => exact hp.elim
      | outgrown => exact hp.elim
    · rintro e W2 ⟨⟨v, rfl⟩, (⟨xs, q, hS, hi, hl, hk⟩ | ⟨pre, q, hSp, c, hi, hl, hk⟩)⟩
      · exact ⟨none, _, by have := run_endLoop (P := P) hl (by rw [hrec]; simp); rw [hrec] at this; exact this, hdone xs q _ hS (hIp _ _ _ _ hi) ((World.putObj_heap_other (by omega)).trans hk)⟩
      · exact ⟨some c, _, by have := run_endLoop (P := P) hl (by rw [hrec]; simp); rw [hrec] at this; exact this, hstop c pre q _ hSp (hIxp _ _ _ _ _ hi) ((World.putObj_heap_other (by omega)).trans hk)⟩
end Go.Proofs.YtdbnddmncbjobaaGreatDoor

/- book.Page: walked. -/
namespace Go.Proofs.YtdbnddmncbjobaaGreatDoor
open Go Go.RowKit Go.Shelf
attribute [local go_sem] Oper.semAt_some

theorem Ext.putObj {a W : World} (h : Ext a W) {k : Nat} (hk : a.heap.size ≤ k) (o : Obj) : Ext a (W.putObj k o) :=
  ⟨h.os, h.tape, h.output, by simpa using h.size, fun j hj => (World.putObj_heap_other (by omega)).trans (h.block j hj)⟩
theorem EnvW.lt4 {w : World} (h : EnvW w) : 4 < w.heap.size := by
  have h1 := h w (Ext.refl w)
  have hg : Tryz.prog.globalNamed "rollbook/glyph.widths" = some 4 := by kernel_rfl
  unfold World.var? at h1
  rw [hg] at h1
  simp only [Option.bind_some] at h1
  rcases Nat.lt_or_ge 4 w.heap.size with h9 | h9
  · exact h9
  · rw [Array.getElem?_eq_none h9] at h1
    exact absurd h1 (by simp)
theorem heap_alloc_old (W : World) (o : Obj) (j : Nat) (h : j < W.heap.size) : (W.alloc o).heap[j]? = W.heap[j]? := Below.heap_alloc _ _ _ h
theorem heap_alloc_at (W : World) (cs : Array Value) (t : TypeId) (j : Nat) (h : j = W.heap.size) : (W.alloc (.cells cs t)).heap[j]? = some (.cells cs t (0, 0)) := by subst h; exact heap_alloc_new _ _
theorem pgRp_ext {q : Nat → Prop} {x : PgV} {W W' : World} (h : pgRp q x W) (hx : Ext W W') : pgRp q x W' := ⟨h.1, h.2.1, Lay.row_ext h.2.2.1 hx, Lay.row_ext h.2.2.2.1 hx, h.2.2.2.2⟩
theorem pgRp_put {q : Nat → Prop} {x : PgV} {W : World} {l : Nat} {o : Obj} (h : pgRp q x W) (hq : ∀ j, q j → j ≠ l) : pgRp q x (W.putObj l o) :=
  ⟨h.1, h.2.1, Lay.row_keep h.2.2.1 (by simp) fun j hj _ => World.putObj_heap_other (hq j hj), Lay.row_keep h.2.2.2.1 (by simp) fun j hj _ => World.putObj_heap_other (hq j hj), h.2.2.2.2⟩
def pgCells (p : Pg) (A7 : Option Addr) (n7 c7 : Nat) (A8 : Option Addr) (n8 c8 : Nat) : Array Value := #[.int .i64 p.num, .int .i64 p.suf, .int .i64 p.ent, .int .i64 p.ver, .slice A7 n7 c7, .slice A8 n8 c8]
def lbIs (num suf : Int) (p : Pg) : Bool := decide (p.num = num ∧ p.suf = suf)
/-- Between two rounds: no page has had the label. -/
structure PgI (w : World) (num suf : Int) (pre : List PgV) (q : Nat → Prop) (W : World) : Prop where
  x : Ext w W
  s : w.heap.size + 7 ≤ W.heap.size
  q : ∀ j, q j → j < w.heap.size ∨ j = w.heap.size + 4 ∨ w.heap.size + 7 ≤ j
  l : W.heap[w.heap.size + 1]? = some (.cells #[.int .i64 num, .int .i64 suf] 64 (0, 0))
  r : W.heap[w.heap.size + 2]? = some (.cells (pgCells ⟨0, 0, 0, 0, [], []⟩ none 0 0 none 0 0) 84 (0, 0))
  b : W.heap[w.heap.size + 3]? = some (.cells #[.bool false] 4 (0, 0))
  n : (pre.map (·.1)).find? (lbIs num suf) = none
/-- A page has had it. -/
structure PgX (w : World) (num suf : Int) (c : Code) (pre : List PgV) (q : Nat → Prop) (W : World) : Prop where
  c : c = .ret
  x : Ext w W
  s : w.heap.size + 8 ≤ W.heap.size
  p : ∃ (p : Pg) (A7 : Option Addr) (n7 c7 : Nat) (A8 : Option Addr) (n8 c8 : Nat), (pre.map (·.1)).find? (lbIs num suf) = some p ∧ n7 ≤ c7 ∧ n8 ≤ c8 ∧
    kLn.row W (fun j => w.heap.size + 8 ≤ j) A7 n7 p.body ∧ kLn.row W (fun j => w.heap.size + 8 ≤ j) A8 n8 p.nts ∧
    W.heap[w.heap.size + 2]? = some (.cells (pgCells p A7 n7 c7 A8 n8 c8) 84 (0, 0))
  b : W.heap[w.heap.size + 3]? = some (.cells #[.bool true] 4 (0, 0))
theorem PgI.ab {w wl : World} {num suf : Int} (hs : wl.heap.size = w.heap.size + 5) : AbMv (wl.heap.size + 2) (PgI w num suf) := by
  intro s Q Q' A B h hm hg
  have hsz := h.s
  refine ⟨hm.ext w (by omega) h.x, Nat.le_trans h.s hm.size, fun j hj => ?_, hm.blk (by omega) h.l, hm.blk (by omega) h.r, hm.blk (by omega) h.b, h.n⟩
  rcases hg j hj with h1 | h1 | h1
  · exact h.q j h1
  · omega
  · omega
theorem PgI.put {w wl : World} {num suf : Int} (hs : wl.heap.size = w.heap.size + 5) {s : List PgV} {q : Nat → Prop} {W : World} {o : Obj} (h : PgI w num suf s q W) : PgI w num suf s q (W.putObj (wl.heap.size + 1) o) :=
  ⟨h.x.putObj (by omega) o, by simpa using h.s, h.q, (World.putObj_heap_other (by omega)).trans h.l, (World.putObj_heap_other (by omega)).trans h.r, (World.putObj_heap_other (by omega)).trans h.b, h.n⟩
theorem PgX.ab {w wl : World} {num suf : Int} (hs : wl.heap.size = w.heap.size + 5) (c : Code) : AbMv (wl.heap.size + 2) (PgX w num suf c) := by
  intro s Q Q' A B h hm hg
  obtain ⟨p, A7, n7, c7, A8, n8, c8, h1, h2, h3, h4, h5, h6⟩ := h.p
  have hsz := h.s
  exact ⟨h.c, hm.ext w (by omega) h.x, Nat.le_trans h.s hm.size, ⟨p, A7, n7, c7, A8, n8, c8, h1, h2, h3, Lay.row_keep h4 hm.size fun j hj hl => hm.keep j (by omega) hl, Lay.row_keep h5 hm.size fun j hj hl => hm.keep j (by omega) hl, hm.blk (by omega) h6⟩, hm.blk (by omega) h.b⟩
theorem PgX.put {w wl : World} {num suf : Int} (hs : wl.heap.size = w.heap.size + 5) {c : Code} {s : List PgV} {q : Nat → Prop} {W : World} {k : Nat} {o : Obj} (hk : k = wl.heap.size + 1 ∨ k = wl.heap.size) (h : PgX w num suf c s q W) : PgX w num suf c s q (W.putObj k o) := by
  obtain ⟨p, A7, n7, c7, A8, n8, c8, h1, h2, h3, h4, h5, h6⟩ := h.p
  exact ⟨h.c, h.x.putObj (by omega) o, by simpa using h.s, ⟨p, A7, n7, c7, A8, n8, c8, h1, h2, h3, Lay.row_keep h4 (by simp) fun j hj hl => World.putObj_heap_other (by omega), Lay.row_keep h5 (by simp) fun j hj hl => World.putObj_heap_other (by omega), (World.putObj_heap_other (by omega)).trans h6⟩, (World.putObj_heap_other (by omega)).trans h.b⟩
end Go.Proofs.YtdbnddmncbjobaaGreatDoor

/- book.Where: walked. -/
namespace Go.Proofs.YtdbnddmncbjobaaGreatDoor
open Go Go.RowKit Go.Shelf
attribute [local go_sem] Oper.semAt_some

variable {β : Type}
/-- Between two rounds: the word has not been found. -/
structure WhI (w : World) (e v wd : Int) (pre : List PgV) (q : Nat → Prop) (W : World) : Prop where
  x : Ext w W
  s : w.heap.size + 10 ≤ W.heap.size
  q : ∀ j, q j → j < w.heap.size ∨ j = w.heap.size + 7 ∨ w.heap.size + 10 ≤ j
  a1 : W.heap[w.heap.size + 1]? = some (.cells #[.int .i64 e] 3 (0, 0))
  a2 : W.heap[w.heap.size + 2]? = some (.cells #[.int .i64 v] 3 (0, 0))
  a3 : W.heap[w.heap.size + 3]? = some (.cells #[.int .i64 wd] 3 (0, 0))
  r4 : W.heap[w.heap.size + 4]? = some (.cells #[.int .i64 0, .int .i64 0] 64 (0, 0))
  r5 : W.heap[w.heap.size + 5]? = some (.cells #[.int .i64 0] 3 (0, 0))
  r6 : W.heap[w.heap.size + 6]? = some (.cells #[.bool false] 4 (0, 0))
  n : whereG e v wd (pre.map (·.1)) = none
/-- It has been. -/
structure WhX (w : World) (e v wd : Int) (c : Code) (pre : List PgV) (q : Nat → Prop) (W : World) : Prop where
  c : c = .ret
  x : Ext w W
  s : w.heap.size + 10 ≤ W.heap.size
  p : ∃ (n s : Int) (i : Nat), (∀ R, whereG e v wd (pre.map (·.1) ++ R) = some (n, s, i)) ∧ W.heap[w.heap.size + 4]? = some (.cells #[.int .i64 n, .int .i64 s] 64 (0, 0)) ∧ W.heap[w.heap.size + 5]? = some (.cells #[.int .i64 i] 3 (0, 0))
  b : W.heap[w.heap.size + 6]? = some (.cells #[.bool true] 4 (0, 0))
theorem WhI.ab {w wl : World} {e v wd : Int} (hs : wl.heap.size = w.heap.size + 8) : AbMv (wl.heap.size + 2) (WhI w e v wd) := by
  intro s Q Q' A B h hm hg
  have hsz := h.s
  refine ⟨hm.ext w (by omega) h.x, Nat.le_trans h.s hm.size, fun j hj => ?_, hm.blk (by omega) h.a1, hm.blk (by omega) h.a2, hm.blk (by omega) h.a3, hm.blk (by omega) h.r4, hm.blk (by omega) h.r5, hm.blk (by omega) h.r6, h.n⟩
  rcases hg j hj with h1 | h1 | h1
  · exact h.q j h1
  · omega
  · omega
theorem WhI.put {w wl : World} {e v wd : Int} (hs : wl.heap.size = w.heap.size + 8) {s : List PgV} {q : Nat → Prop} {W : World} {o : Obj} (h : WhI w e v wd s q W) : WhI w e v wd s q (W.putObj (wl.heap.size + 1) o) :=
  ⟨h.x.putObj (by omega) o, by simpa using h.s, h.q, (World.putObj_heap_other (by omega)).trans h.a1, (World.putObj_heap_other (by omega)).trans h.a2, (World.putObj_heap_other (by omega)).trans h.a3, (World.putObj_heap_other (by omega)).trans h.r4, (World.putObj_heap_other (by omega)).trans h.r5, (World.putObj_heap_other (by omega)).trans h.r6, h.n⟩
theorem WhX.ab {w wl : World} {e v wd : Int} (hs : wl.heap.size = w.heap.size + 8) (c : Code) : AbMv (wl.heap.size + 2) (WhX w e v wd c) := by
  intro s Q Q' A B h hm hg
  obtain ⟨n, k, i, h1, h2, h3⟩ := h.p
  have hsz := h.s
  exact ⟨h.c, hm.ext w (by omega) h.x, Nat.le_trans h.s hm.size, ⟨n, k, i, h1, hm.blk (by omega) h2, hm.blk (by omega) h3⟩, hm.blk (by omega) h.b⟩
theorem WhX.put {w wl : World} {e v wd : Int} (hs : wl.heap.size = w.heap.size + 8) {c : Code} {s : List PgV} {q : Nat → Prop} {W : World} {k : Nat} {o : Obj} (hk : k = wl.heap.size + 1 ∨ k = wl.heap.size) (h : WhX w e v wd c s q W) : WhX w e v wd c s q (W.putObj k o) := by
  obtain ⟨n, m, i, h1, h2, h3⟩ := h.p
  exact ⟨h.c, h.x.putObj (by omega) o, by simpa using h.s, ⟨n, m, i, h1, (World.putObj_heap_other (by omega)).trans h2, (World.putObj_heap_other (by omega)).trans h3⟩, (World.putObj_heap_other (by omega)).trans h.b⟩
end Go.Proofs.YtdbnddmncbjobaaGreatDoor

/- slices.AppendSeq at book.all's iterator, slices.Collect, book.Pages: walked. -/
namespace Go.Proofs.YtdbnddmncbjobaaGreatDoor
open Go Go.RowKit Go.Shelf
attribute [local go_sem] Oper.semAt_some

theorem wpListIn_append_run {F : Fence} {n : Nat} {P : Program} {w : World} {ops : Array Oper} {rest : List Oper} {o : Oper} {a : Act} {Q : Exit → Act → World → Prop} {s x : Operand} {t : TypeId} {vs vx v' : Value} {w' : World}
    (hr : (Builtin.append_ #[t, t] t #[vs, vx]).run P w = .ok v' w') (hgd : o.guard = none)
    (ho : o.op = .call { callee := .builtin .append, args := #[s, x], argTypes := #[t, t] }) (hty : o.type = t) (hs : a.eval s = vs) (hx : a.eval x = vx)
    (h : wpListIn F n P ops Q rest (a.put o.dst v') w') : wpListIn F n P ops Q (o :: rest) a w := by
  refine wpListIn_plain hgd fun K hK => ?_
  unfold Oper.wpIn
  refine ⟨by simp [Oper.about, ho, resolve, Target.leads, Sem.run_pure], ?_⟩
  rw [Oper.semAt_plain F _ _ (by rw [ho]; intro c hc'; cases hc')]
  rw [← hty] at hr
  simp [execOp, ho, resolve, invoke, builtin, hs, hx, hty, Result.andThen]
  rw [hty] at hr
  simp [hr]
  exact hK _ _ h
def ClPost (w : World) (b : Bk) (e : Ending) (w' : World) : Prop := ∃ A n c, e = .returned (.slice A n c) ∧ n ≤ c ∧ n ≤ 1000000 ∧ kPg.row w' (fun j => w.heap.size ≤ j) A n (pagesB b) ∧ Ext w w'
/-- Between two rounds: the pages that have come are in a row of the call's own. -/
structure ClI (w : World) (D z : Nat) (pre : List PgV) (q : Nat → Prop) (W : World) : Prop where
  x : Ext w W
  s : D + 2 ≤ W.heap.size
  hq : ∀ j, q j → j ≠ z ∧ j ≠ D ∧ j ≠ D + 1
  v : ∃ A n c, n = pre.length ∧ n ≤ c ∧ W.heap[z]? = some (.cells #[.slice A n c] 106 (0, 0)) ∧ kPg.own 84 W (D + 3) (fun j => D + 3 ≤ j) (.slice A n c) (pre.map (·.1)) ∧ ∀ j, (Value.slice A n c).ownBlock = some j → ¬ q j
theorem ClI.ab {w wl : World} {z : Nat} (hwz : w.heap.size ≤ z) (hz : z < wl.heap.size) : AbMv (wl.heap.size + 2) (ClI w wl.heap.size z) := by
  intro s Q Q' A B h hm hg
  obtain ⟨Ad, n, c, h1, h2, h3, h4, h5⟩ := h.v
  have hlt := Lay.own_lt h4
  have hA := h.s
  refine ⟨hm.ext w (by omega) h.x, Nat.le_trans h.s hm.size, fun j hj => ?_, Ad, n, c, h1, h2, hm.blk (by omega) h3, Lay.own_keep h4 hm.size fun j hj hl => hm.keep j ?_ hl, fun j hj hq => ?_⟩
  · rcases hg j hj with h1 | h1 | h1
    · exact h.hq j h1
    · omega
    · omega
  · rcases hj with hj | hj
    · omega
    · have := hlt j hj; omega
  · have := hlt j hj
    rcases hg j hq with h6 | h6 | h6
    · exact h5 j hj h6
    · omega
    · omega
theorem ClI.put {w wl : World} {z : Nat} (hwz : w.heap.size ≤ z) (hz : z < wl.heap.size) {s : List PgV} {q : Nat → Prop} {W : World} {k : Nat} {o : Obj} (hk : k = wl.heap.size + 1 ∨ k = wl.heap.size) (h : ClI w wl.heap.size z s q W) : ClI w wl.heap.size z s q (W.putObj k o) := by
  obtain ⟨Ad, n, c, h1, h2, h3, h4, h5⟩ := h.v
  have hlt := Lay.own_lt h4
  refine ⟨h.x.putObj (by omega) o, by simpa using h.s, h.hq, Ad, n, c, h1, h2, (World.putObj_heap_other (by omega)).trans h3, Lay.own_keep h4 (by simp) fun j hj _ => World.putObj_heap_other ?_, h5⟩
  rcases hj with hj | hj
  · omega
  · have := hlt j hj; omega
def ClAx (D z zb : Nat) (x : PgV) (_ : Nat → Prop) (a' : Act) (W : World) : Prop :=
  ∃ Bx, D + 2 < Bx ∧ W.heap[Bx]? = some (.cells (pgCells x.1 x.2.1.1 x.2.1.2.1 x.2.1.2.2 x.2.2.1 x.2.2.2.1 x.2.2.2.2) 84 (0, 0)) ∧
    a' = { tmps := #[.slice none 0 0, .func (.func 126) #[] #[.pointer (some ⟨zb, 0, none⟩)], .pointer (some ⟨z, 0, none⟩), undef, .slice none 0 0, .pointer (some ⟨Bx, 0, none⟩), .func (.func 126) #[] #[.pointer (some ⟨zb, 0, none⟩)],
      .agg (pgCells x.1 x.2.1.1 x.2.1.2.1 x.2.1.2.2 x.2.2.1 x.2.2.2.1 x.2.2.2.2), undef, undef, undef, undef, undef], defers := [] }
/-- A page is appended. -/
theorem cl_app {w wl W : World} {z : Nat} {pre : List PgV} {q : Nat → Prop} (hwz : w.heap.size ≤ z) (hz : z < wl.heap.size) (hI : ClI w wl.heap.size z pre q W) {x : PgV} (hrp : pgRp (fun j => (q j ∧ j ≠ wl.heap.size + 2) ∧ wl.heap.size ≤ j) x W) (hqs : ∀ j, q j → j < W.heap.size) (hlen : wl.heap.size + 2 < W.heap.size) (hpl : pre.length < 10000000) :
    ∃ Ad n cc A' n' c' w', W.heap[z]? = some (.cells #[.slice Ad n cc] 106 (0, 0)) ∧ (Builtin.append_ #[106, 106] 106 #[.slice Ad n cc, .slice (some ⟨W.heap.size, 0, none⟩) 1 1]).run Tryz.prog (W.alloc (.cells (pgCells x.1 x.2.1.1 x.2.1.2.1 x.2.1.2.2 x.2.2.1 x.2.2.2.1 x.2.2.2.2) 84)) = .ok (.slice A' n' c') w' ∧
      w'.heap[z]? = some (.cells #[.slice Ad n cc] 106 (0, 0)) ∧ ((w'.setCell ⟨z, 0, none⟩ (.slice A' n' c')).heap[wl.heap.size + 1]? = W.heap[wl.heap.size + 1]? ∧ (w'.setCell ⟨z, 0, none⟩ (.slice A' n' c')).heap[wl.heap.size]? = W.heap[wl.heap.size]?) ∧ (∀ j, q j → (w'.setCell ⟨z, 0, none⟩ (.slice A' n' c')).heap[j]? = W.heap[j]?) ∧ ClI w wl.heap.size z (pre ++ [x]) q (w'.setCell ⟨z, 0, none⟩ (.slice A' n' c')) := by
  obtain ⟨Ad, n, cc, h1, h2, h3, h4, h5⟩ := hI.v
  obtain ⟨pg, ⟨A7, n7, c7⟩, ⟨A8, n8, c8⟩⟩ := x
  obtain ⟨k1, k2, k3, k4, _⟩ := hrp
  dsimp only at k1 k2 k3 k4
  have hsub : ∀ j, ((q j ∧ j ≠ wl.heap.size + 2) ∧ wl.heap.size ≤ j) → j < W.heap.size → wl.heap.size + 3 ≤ j ∧ (Value.slice Ad n cc).ownBlock ≠ some j := fun j hj _ => by
    have := hI.hq j hj.1.1
    exact ⟨by omega, fun e => h5 j e hj.1.1⟩
  have hlt := Lay.own_lt h4
  obtain ⟨A', c', w', r1, r2, r3, r4, r5, r6⟩ := own_app1 (k := kPg) (Pr := Tryz.prog) (t := 106) Tryz.underlying106 info84 rfl (by decide) (by omega) h4 (by omega) (cs := pgCells pg A7 n7 c7 A8 n8 c8) (T := 84) (x := pg) (kPg_rep.2 ⟨A7, n7, c7, A8, n8, c8, rfl, k1, k2, Lay.row_mono k3 hsub, Lay.row_mono k4 hsub⟩) 1 (by rw [List.length_map]; omega)
  have hw : ∀ j, j < W.heap.size → (Value.slice Ad n cc).ownBlock ≠ some j → j ≠ z → (w'.setCell ⟨z, 0, none⟩ (.slice A' ((pre.map (·.1)).length + 1) c')).heap[j]? = W.heap[j]? := fun j hj ho hz => (heap_setCell_other _ ⟨z, 0, none⟩ j _ hz).trans (r4 j hj ho)
  have hzW := lt_of_block h3
  have hzo : (Value.slice Ad n cc).ownBlock ≠ some z := fun e => by have := hlt z e; omega
  have hz' : w'.heap[z]? = some (.cells #[.slice Ad n cc] 106 (0, 0)) := (r4 z hzW hzo).trans h3
  have hlt' := Lay.own_lt r2
  refine ⟨Ad, n, cc, A', _, c', w', h3, r1, hz', ⟨hw _ (by omega) (fun e => by have := hlt _ e; omega) (by omega), hw _ (by omega) (fun e => by have := hlt _ e; omega) (by omega)⟩, fun j hj => hw j (hqs j hj) (fun e => h5 j e hj) (hI.hq j hj).1, ?_⟩
  refine ⟨Ext.setCell (p := ⟨z, 0, none⟩) (Below.trans hI.x (r3 _ (by have := hI.x.lt; omega))) hwz _, by have := hI.s; simp; omega, hI.hq, A', (pre.map (·.1)).length + 1, c', by simp, ?_, ?_, ?_, fun j hj hq => ?_⟩
  · obtain ⟨A9, c9, e9, h9, _⟩ := Lay.own_row r2
    obtain ⟨_, e2, e3⟩ := Value.slice.inj e9
    rw [e2, e3]; exact h9
  · rw [heap_setCell_same _ z 0 _ 106 _ hz']; rfl
  · rw [List.map_append]
    exact Lay.own_keep r2 (by simp) fun j hj _ => heap_setCell_other _ ⟨z, 0, none⟩ j _ (by
      rcases hj with hj | hj
      · show j ≠ z; omega
      · have := hlt' j hj; show j ≠ z; omega)
  · rcases r6 j hj with h6 | h6
    · exact h5 j h6 hq
    · have := hqs j hq; omega
set_option maxHeartbeats 4000000 in
set_option maxRecDepth 100000 in
theorem appseq_any (P : Nat → Prop) (w : World) (b : Bk) (zb : Nat) (A : Option Addr) (N c : Nat) (hb : BkI b) (hB : w.heap[zb]? = some (.cells #[.int .i64 b.ms, .int .i64 b.ht, .slice A N c] 27 (0, 0))) (hr : kSe.row w P A N b.secs) (hL : EnvW w) :
    Calls Tryz.prog 139 #[.slice none 0 0, .func (.func 126) #[] #[.pointer (some ⟨zb, 0, none⟩)]] w (ClPost w b) := by
  refine (callsIn_wide (n := 5)).1 ?_
  refine callsIn_of_wp_marks Tryz.func139 rfl trivial ?_ rfl
  simp only [Tryz.ntmps139, List.size_toArray, List.length_cons, List.length_nil, Nat.reduceAdd, Nat.reduceSub, Array.replicate_succ, Array.replicate_zero, List.push_toArray, List.append_toArray, List.nil_append, List.cons_append]
  refine wpIn_wide.2 ?_
  go_wp2_with fail
  obtain ⟨wl, hwl⟩ : ∃ wl, w.alloc (.cells #[.slice none 0 0] 106) = wl := ⟨_, rfl⟩
  obtain ⟨z, hz⟩ : ∃ z, w.heap.size = z := ⟨_, rfl⟩
  rw [hwl, hz]
  have hsz : wl.heap.size = z + 1 := by rw [← hwl, ← hz]; simp
  have hxl : Ext w wl := by rw [← hwl]; exact (Ext.refl w).alloc _
  have hZ : wl.heap[z]? = some (.cells #[.slice none 0 0] 106 (0, 0)) := by rw [← hwl, ← hz]; exact heap_alloc_at _ _ _ _ rfl
  have hzl := lt_of_block hB
  have HSEQ := all1_seq 4 wl b zb A N c (fun j => j < w.heap.size) hb (fun j hj => by omega) hL.lt4 hzl ((hxl.block _ hzl).trans hB) (Lay.row_ext (Lay.row_mono (Q := fun j => j < w.heap.size) hr fun j _ hl => hl) hxl) (hL.ext hxl)
  have HNP := Lib.hid hb.np
  clear hwl hzl hB hr hL hb
  refine (wpIn_wide (n := 5)).1 ?_
  refine rangeH (n := 5) rfl (by omega) (gf := 126) (lb := #[.pointer (some ⟨zb, 0, none⟩)]) rfl trivial (enters_of Tryz.func126 (by kernel_rfl) rfl) HSEQ (fun x => rfl) (fun _ _ _ _ _ => pgRp_put) (ClI w wl.heap.size z) (fun _ _ _ _ => False) (ClI.ab (by omega) (by omega)) (fun _ _ _ _ _ _ h => h.elim)
    (fun s q W o' h => h.put (by omega) (by omega) (.inl rfl)) (fun cc s q W o' h => h) (fun j hj => by omega) (fun s q W h j hj => (h.hq j hj).2) (fun W hx hs => ⟨hxl.trans hx, by omega, fun j hj => by omega, none, 0, 0, rfl, Nat.le_refl _, (hx.block _ (by omega)).trans hZ, Lay.own_nil _ _ _ _ _, fun j hj => by cases hj⟩)
    (ClAx wl.heap.size z zb) (fun _ _ _ _ _ h => ?ap) (fun q x W W' h hx => pgRp_ext h hx) ?assign ?body ?done ?stop
  case ap =>
    obtain ⟨Bx, h1, h2, h3⟩ := h
    exact ⟨Bx, h1, (World.putObj_heap_other (by omega)).trans h2, h3⟩
  case assign =>
    rintro l ⟨pg, ⟨A7, n7, c7⟩, ⟨A8, n8, c8⟩⟩ q W K hrp hlen hqs hK
    dsimp only [pgEnc]
    gi_wp2
    exact hK _ _ ((Ext.refl W).alloc _) ⟨W.heap.size, by omega, heap_alloc_at _ _ _ _ rfl, rfl⟩
  case body =>
    rintro pre x q a' W hI hrp ⟨Bx, hBx, hB, rfl⟩ hqs hlen hsp
    have hpl : pre.length < 10000000 := by
      have h1 := hsp.length_le
      have h2 := HNP.out
      simp only [List.length_map, List.length_append, List.length_cons, List.length_nil] at h1
      omega
    obtain ⟨Ad, n, cc, A', n', c', w', hz1, hrun, hz2, hfin⟩ := cl_app (by omega) (by omega) hI hrp hqs hlen hpl
    obtain ⟨pg, ⟨A7, n7, c7⟩, ⟨A8, n8, c8⟩⟩ := x
    dsimp only [pgCells] at hB hrun hfin ⊢
    have c0 := cell_of hB (i := 0) (u := .int .i64 pg.num) rfl
    have c1 := cell_of hB (i := 1) (u := .int .i64 pg.suf) rfl
    have c2 := cell_of hB (i := 2) (u := .int .i64 pg.ent) rfl
    have c3 := cell_of hB (i := 3) (u := .int .i64 pg.ver) rfl
    have c4 := cell_of hB (i := 4) (u := .slice A7 n7 c7) rfl
    have c5 := cell_of hB (i := 5) (u := .slice A8 n8 c8) rfl
    have s0 := cell_of hz1 (i := 0) (u := .slice Ad n cc) rfl
    have s1 := cell_of hz2 (i := 0) (u := .slice Ad n cc) rfl
    have s2 := frozen_of hz2 0
    have HRUN := Lib.hid hrun
    have HFIN := Lib.hid hfin
    clear hI hrp hqs hB hrun hfin hz1 hz2 HSEQ hsp
    gi_wp2_with (gi_at_builtin; refine wpListIn_append_run (s := .tmp 8) (x := .tmp 10) HRUN.out rfl rfl rfl rfl rfl ?_)
    exact HFIN.out
  case done =>
    intro xs q W hS hI hK
    obtain ⟨Ad, n, cc, hn, hnc, hz1, ho, _⟩ := hI.v
    have s0 := cell_of hz1 (i := 0) (u := .slice Ad n cc) rfl
    have HI := Lib.hid hI
    have HK := Lib.hid hK
    have HO := Lib.hid ho
    have HS := Lib.hid hS
    have HN := Lib.hid (And.intro hn hnc)
    clear hI hK HSEQ ho hS hn hnc hz1
    gi_wp2
    go_wp2_with fail
    obtain ⟨Z, hZ⟩ : ∃ Z, W.putObj wl.heap.size (.deferred none) = Z := ⟨_, rfl⟩
    have hlt := Lay.own_lt HO.out
    have hxZ : Ext w Z := by rw [← hZ]; exact HI.out.x.putObj (by omega) _
    have hoZ : kPg.own 84 Z (wl.heap.size + 3) (fun j => wl.heap.size + 3 ≤ j) (.slice Ad n cc) (xs.map (·.1)) := by
      rw [← hZ]
      exact Lay.own_keep HO.out (by simp) fun j hj _ => World.putObj_heap_other (by
        rcases hj with hj | hj
        · omega
        · have := hlt j hj; omega)
    refine ⟨by simp, .inl ⟨_, _, rfl, run_takeDeferred HK.out, ?_⟩⟩
    rw [hZ]
    refine ⟨.slice Ad n cc, by simp [results, Tryz.results139, go_sem], Ad, n, cc, rfl, HN.out.2, ?_, ?_, hxZ⟩
    · have h1 := HNP.out
      rw [← HS.out, List.length_map] at h1
      have := HN.out.1
      omega
    · obtain ⟨A9, c9, e9, _, h9⟩ := Lay.own_row hoZ
      obtain ⟨e1, e2, _⟩ := Value.slice.inj e9
      rw [← e1, ← e2, HS.out] at h9
      exact Lay.row_mono h9 fun j hj _ => by
        rcases hj with hj | hj
        · omega
        · have := hlt j hj; omega
  case stop =>
    intro cc pre q W hS hX hK
    exact hX.elim
set_option maxHeartbeats 4000000 in
set_option maxRecDepth 100000 in
theorem collect_any (P : Nat → Prop) (w : World) (b : Bk) (zb : Nat) (A : Option Addr) (N c : Nat) (hb : BkI b) (hB : w.heap[zb]? = some (.cells #[.int .i64 b.ms, .int .i64 b.ht, .slice A N c] 27 (0, 0))) (hr : kSe.row w P A N b.secs) (hL : EnvW w) :
    Calls Tryz.prog 109 #[.func (.func 126) #[] #[.pointer (some ⟨zb, 0, none⟩)]] w (ClPost w b) := by
  have HA := Lib.hid (appseq_any P w b zb A N c hb hB hr hL)
  clear hb hB hr hL
  go_enter Tryz.func109, Tryz.ntmps109
  go_wp2_with (first | (go_at_call 139; refine (HA.out).mono ?_; rintro e w1 ⟨A1, n1, c1, rfl, h1⟩))
  go_ret
  exact ⟨A1, n1, c1, rfl, h1⟩
set_option maxHeartbeats 4000000 in
set_option maxRecDepth 100000 in
theorem pages_any (P : Nat → Prop) (w : World) (b : Bk) (A : Option Addr) (N c : Nat) (hb : BkI b) (hr : kSe.row w P A N b.secs) (hL : EnvW w) :
    Calls Tryz.prog 55 #[.agg #[.int .i64 b.ms, .int .i64 b.ht, .slice A N c]] w (ClPost w b) := by
  obtain ⟨W0, hW0⟩ : ∃ W0, w.alloc (.cells #[.int .i64 b.ms, .int .i64 b.ht, .slice A N c] 27) = W0 := ⟨_, rfl⟩
  have hx0 : Ext w W0 := by rw [← hW0]; exact (Ext.refl w).alloc _
  have hx1 : Ext w (W0.alloc (.cells #[.int .i64 b.ms, .int .i64 b.ht, .slice A N c] 27)) := hx0.alloc _
  have HA := Lib.hid (collect_any P (W0.alloc (.cells #[.int .i64 b.ms, .int .i64 b.ht, .slice A N c] 27)) b W0.heap.size A N c hb (heap_alloc_at _ _ _ _ rfl) (Lay.row_ext hr hx1) (hL.ext hx1))
  have a0 : W0.cell? ⟨w.heap.size, 0, none⟩ = some (.int .i64 b.ms) := by rw [← hW0]; exact cell_of (heap_alloc_at w _ _ _ rfl) (i := 0) rfl
  have a1 : W0.cell? ⟨w.heap.size, 1, none⟩ = some (.int .i64 b.ht) := by rw [← hW0]; exact cell_of (heap_alloc_at w _ _ _ rfl) (i := 1) rfl
  have a2 : W0.cell? ⟨w.heap.size, 2, none⟩ = some (.slice A N c) := by rw [← hW0]; exact cell_of (heap_alloc_at w _ _ _ rfl) (i := 2) rfl
  have HX1 := Lib.hid hx1
  clear hb hr hL hx0 hx1
  go_enter Tryz.func55, Tryz.ntmps55
  go_upto_region 1 with (fail)
  clear hW0
  go_wp2_with (first | (go_at_call 73; refine (all_any _ _ _ _ _ _).mono ?_; rintro e w' ⟨rfl, rfl⟩) | (go_at_call 109; refine (HA.out).mono ?_; rintro e w1 ⟨A1, n1, c1, rfl, h1, h2, h3, h4⟩))
  go_ret
  exact ⟨A1, n1, c1, rfl, h1, h2, Lay.row_mono h3 fun j hj _ => Nat.le_trans HX1.out.lt hj, HX1.out.trans h4⟩
end Go.Proofs.YtdbnddmncbjobaaGreatDoor

/- book.wrong, book.fits: walked. -/
namespace Go.Proofs.YtdbnddmncbjobaaGreatDoor
open Go Go.RowKit

theorem OkT.wn {t : Tx} (h : OkT t) : 1 ≤ wordsN (t.paras ++ t.notes) ∧ wordsN (t.paras ++ t.notes) ≤ 1000000 := by
  have hle : ∀ (B : Nat) (l : List (List Wd)), (∀ p ∈ l, p.length ≤ B) → wordsN l ≤ B * l.length := by
    intro B l
    induction l with
    | nil => intro _; simp [wordsN]
    | cons p l ih =>
      intro hl
      have h1 := hl p (by simp)
      have h2 := ih fun q hq => hl q (by simp [hq])
      simp only [wordsN, List.map_cons, List.sum_cons, List.length_cons, Nat.mul_succ] at h2 ⊢
      omega
  have hap : wordsN (t.paras ++ t.notes) = wordsN t.paras + wordsN t.notes := by simp [wordsN]
  have h1 := hle 40 t.paras fun p hp => (h.par.len p hp).2
  have h2 := hle 12 t.notes fun p hp => (h.len p hp).2
  have h3 := h.np
  have h4 := h.nn
  refine ⟨?_, by omega⟩
  cases hp : t.paras with
  | nil => rw [hp] at h3; simp at h3
  | cons p r =>
    have := (h.par.len p (by rw [hp]; simp)).1
    simp only [wordsN, List.cons_append, List.map_cons, List.sum_cons]
    omega
set_option maxHeartbeats 4000000 in
set_option maxRecDepth 100000 in
theorem wrong_ok (P : Nat → Prop) (w : World) (m h : Int) (B : Option Addr) (N k : Nat) (t : Tx) (A A' : Option Addr) (n n' c c' : Nat) (h1 : kWs.row w P A n t.paras) (h2 : kWs.row w P A' n' t.notes) (hT : OkT t) (hm0 : 500 ≤ m) (hm : m ≤ 2000) (hh0 : 4 ≤ h) (hh : h ≤ 100) (hL : EnvW w) :
    Calls Tryz.prog 83 #[.agg #[.int .i64 m, .int .i64 h, .slice B N k], .agg #[.slice A n c, .slice A' n' c']] w (fun e w' => e = .returned (.int .i64 0) ∧ Ext w w') := by
  have HPT := Lib.hid (fun X (hX : Ext w X) => ptext_any P X t m h A A' n n' c c' (Lay.row_ext h1 hX) (Lay.row_ext h2 hX) (txP_of hT hm0 hm hh0 hh) hm0 hm (hL.ext hX))
  have HCO := Lib.hid (fun X (hX : Ext w X) => count_any P X A A' n n' c c' t (Lay.row_ext h1 hX) (Lay.row_ext h2 hX) (by have := hT.np; omega) (by have := hT.nn; omega) hT.wn.2)
  have hw1 := hT.wn.1
  obtain ⟨q, hq⟩ : ∃ q, wordsN (t.paras ++ t.notes) = q := ⟨_, rfl⟩
  rw [hq] at hw1 HCO
  clear h1 h2 hT hL hq
  have hq0 : ((q : Int) == 0) = false := by simp; omega
  go_enter Tryz.func83, Tryz.ntmps83
  go_upto_region 1 with (fail)
  obtain ⟨W0, hW0⟩ : ∃ W0, (w.alloc (.cells #[.int .i64 m, .int .i64 h, .slice B N k] 27)).alloc (.cells #[.slice A n c, .slice A' n' c'] 53) = W0 := ⟨_, rfl⟩
  obtain ⟨z, hz⟩ : ∃ z, w.heap.size = z := ⟨_, rfl⟩
  have hx0 : Ext w W0 := by rw [← hW0]; exact ((Ext.refl w).alloc _).alloc _
  have hB1 : W0.heap[z]? = some (.cells #[.int .i64 m, .int .i64 h, .slice B N k] 27 (0, 0)) := by rw [← hW0, ← hz, heap_alloc_old _ _ _ (by simp)]; exact heap_alloc_at _ _ _ _ rfl
  have hB2 : W0.heap[z + 1]? = some (.cells #[.slice A n c, .slice A' n' c'] 53 (0, 0)) := by rw [← hW0, ← hz]; exact heap_alloc_at _ _ _ _ (by simp)
  rw [hW0, hz]
  have a0 := cell_of hB1 (i := 0) (u := .int .i64 m) rfl
  have a1 := cell_of hB1 (i := 1) (u := .int .i64 h) rfl
  have b0 := cell_of hB2 (i := 0) (u := .slice A n c) rfl
  have b1 := cell_of hB2 (i := 1) (u := .slice A' n' c') rfl
  have HX0 := Lib.hid hx0
  have HB2 := Lib.hid hB2
  clear hW0 hz hx0 hB1 hB2
  go_upto_region 2 with (first | (go_at_call 127; refine (HPT.out _ HX0.out).mono ?_; rintro e w1 ⟨A1, c1, rfl, _, hx1⟩))
  have hB2 := (hx1.block _ (lt_of_block HB2.out)).trans HB2.out
  have b0 := cell_of hB2 (i := 0) (u := .slice A n c) rfl
  have b1 := cell_of hB2 (i := 1) (u := .slice A' n' c') rfl
  have HX1 := Lib.hid (HX0.out.trans hx1)
  clear hx1 hB2 a0 a1 HPT
  go_wp2_with (first | (go_at_call 31; refine (HCO.out _ HX1.out).mono ?_; rintro e w2 ⟨rfl, hx2⟩))
  go_ret
  exact ⟨rfl, HX1.out.trans hx2⟩
def FitPost (w : World) (m h : Int) (A : Option Addr) (N c np : Nat) (e : Ending) (w' : World) : Prop :=
  Ext w w' ∧ ((np ≤ 16384 ∧ e = .returned (.tuple #[.agg #[.int .i64 m, .int .i64 h, .slice A N c], .int .i64 0])) ∨ (16384 < np ∧ e = .returned (.tuple #[.agg #[.int .i64 0, .int .i64 0, .slice none 0 0], .int .i64 2])))
/-- The result of three cells is stored. -/
theorem st3 {W : World} {z : Nat} {a0 a1 a2 : Value} (h : W.heap[z]? = some (.cells #[a0, a1, a2] 27 (0, 0))) (v0 v1 v2 : Value) :
    (((W.setCell ⟨z, 0, none⟩ v0).setCell ⟨z, 1, none⟩ v1).setCell ⟨z, 2, none⟩ v2).heap[z]? = some (.cells #[v0, v1, v2] 27 (0, 0)) :=
  heap_setCell_same _ z 2 _ 27 _ (heap_setCell_same _ z 1 _ 27 _ (heap_setCell_same _ z 0 _ 27 _ h))
theorem ext3 {a W : World} (h : Ext a W) {z : Nat} (hz : a.heap.size ≤ z) (v0 v1 v2 : Value) : Ext a (((W.setCell ⟨z, 0, none⟩ v0).setCell ⟨z, 1, none⟩ v1).setCell ⟨z, 2, none⟩ v2) :=
  ((h.setCell (p := ⟨z, 0, none⟩) hz v0).setCell (p := ⟨z, 1, none⟩) hz v1).setCell (p := ⟨z, 2, none⟩) hz v2
set_option maxHeartbeats 4000000 in
set_option maxRecDepth 100000 in
theorem bfits_any (P : Nat → Prop) (w : World) (b : Bk) (A : Option Addr) (N c : Nat) (hb : BkI b) (hr : kSe.row w P A N b.secs) (hL : EnvW w) :
    Calls Tryz.prog 85 #[.agg #[.int .i64 b.ms, .int .i64 b.ht, .slice A N c]] w (FitPost w b.ms b.ht A N c (pagesB b).length) := by
  have HPG := Lib.hid (fun X (hX : Ext w X) => pages_any P X b A N c hb (Lay.row_ext hr hX) (hL.ext hX))
  clear hb hr hL
  go_enter Tryz.func85, Tryz.ntmps85
  go_upto_region 1 with (fail)
  obtain ⟨W0, hW0⟩ : ∃ W0, (w.alloc (.cells #[.int .i64 b.ms, .int .i64 b.ht, .slice A N c] 27)).alloc (.cells #[.int .i64 0, .int .i64 0, .slice none 0 0] 27) = W0 := ⟨_, rfl⟩
  obtain ⟨z, hz⟩ : ∃ z, w.heap.size = z := ⟨_, rfl⟩
  have hx0 : Ext w W0 := by rw [← hW0]; exact ((Ext.refl w).alloc _).alloc _
  have hB1 : W0.heap[z]? = some (.cells #[.int .i64 b.ms, .int .i64 b.ht, .slice A N c] 27 (0, 0)) := by rw [← hW0, ← hz, heap_alloc_old _ _ _ (by simp)]; exact heap_alloc_at _ _ _ _ rfl
  have hB2 : W0.heap[z + 1]? = some (.cells #[.int .i64 0, .int .i64 0, .slice none 0 0] 27 (0, 0)) := by rw [← hW0, ← hz]; exact heap_alloc_at _ _ _ _ (by simp)
  rw [hW0, hz]
  have a0 := cell_of hB1 (i := 0) (u := .int .i64 b.ms) rfl
  have a1 := cell_of hB1 (i := 1) (u := .int .i64 b.ht) rfl
  have a2 := cell_of hB1 (i := 2) (u := .slice A N c) rfl
  have HX0 := Lib.hid hx0
  have HB := Lib.hid (And.intro hB1 hB2)
  have HZ := Lib.hid hz
  clear hW0 hz hx0 hB1 hB2
  go_upto_if 7 with (first | (go_at_call 55; refine (HPG.out _ HX0.out).mono ?_; rintro e w1 ⟨Ap, np, cp, rfl, hpc, hp6, hrow, hx1⟩))
  have HE := Lib.hid (Lay.row_len hrow)
  have hB2 := (hx1.block _ (lt_of_block HB.out.2)).trans HB.out.2
  have hB1 := (hx1.block _ (lt_of_block HB.out.1)).trans HB.out.1
  have HX1 := Lib.hid (HX0.out.trans hx1)
  have a0 := cell_of hB1 (i := 0) (u := .int .i64 b.ms) rfl
  have a1 := cell_of hB1 (i := 1) (u := .int .i64 b.ht) rfl
  have a2 := cell_of hB1 (i := 2) (u := .slice A N c) rfl
  have r0 := cell_of hB2 (i := 0) (u := .int .i64 0) rfl
  have r1 := cell_of hB2 (i := 1) (u := .int .i64 0) rfl
  have r2 := cell_of hB2 (i := 2) (u := .slice none 0 0) rfl
  have f0 := frozen_of hB2 0
  have f1 := frozen_of hB2 1
  have f2 := frozen_of hB2 2
  have HB2 := Lib.hid hB2
  clear hrow hx1 hB1 hB2 hpc HX0 HB HPG
  by_cases hc : 16384 < np
  · have hcI : (16384 : Int) < (np : Int) := by omega
    go_wp2_with fail
    have hs := st3 HB2.out (.int .i64 0) (.int .i64 0) (.slice none 0 0)
    have q0 := cell_of hs (i := 0) rfl
    have q1 := cell_of hs (i := 1) rfl
    have q2 := cell_of hs (i := 2) rfl
    refine bodyPost_ret (v := .tuple #[.agg #[.int .i64 0, .int .i64 0, .slice none 0 0], .int .i64 2]) (by simp [results, Tryz.results85, go_sem, q0, q1, q2]) rfl ?_
    exact ⟨ext3 HX1.out (by have := HZ.out; omega) _ _ _, .inr ⟨by have := HE.out; omega, rfl⟩⟩
  · have hcI : ¬ (16384 : Int) < (np : Int) := by omega
    go_wp2_with fail
    have hs := st3 HB2.out (.int .i64 b.ms) (.int .i64 b.ht) (.slice A N c)
    have q0 := cell_of hs (i := 0) rfl
    have q1 := cell_of hs (i := 1) rfl
    have q2 := cell_of hs (i := 2) rfl
    refine bodyPost_ret (v := .tuple #[.agg #[.int .i64 b.ms, .int .i64 b.ht, .slice A N c], .int .i64 0]) (by simp [results, Tryz.results85, go_sem, q0, q1, q2]) rfl ?_
    exact ⟨ext3 HX1.out (by have := HZ.out; omega) _ _ _, .inl ⟨by have := HE.out; omega, rfl⟩⟩
end Go.Proofs.YtdbnddmncbjobaaGreatDoor

/- cite.Of: walked. -/
namespace Go.Proofs.YtdbnddmncbjobaaGreatDoor
open Go Go.RowKit

def frzIn (b : Bk) (e : Int) : Bool := b.secs.any fun x => x.ent == e && x.fz
def ofP (b : Bk) (br e v wd : Int) : Option (Int × Int × Nat) := if br < 0 ∨ 256 ≤ br ∨ frzIn b e = false then none else whereP b e v wd
/-- The result's cells. -/
structure CiR (z : Nat) (W : World) : Prop where
  c0 : W.cell? ⟨z, 0, none⟩ = some (.int .i64 0)
  c1 : W.cell? ⟨z, 1, none⟩ = some (.int .i64 0)
  c2 : W.cell? ⟨z, 2, none⟩ = some (.int .i64 0)
  c3 : W.cell? ⟨z, 3, none⟩ = some (.int .i64 0)
  f0 : W.frozen? ⟨z, 0, none⟩ = false
  f1 : W.frozen? ⟨z, 1, none⟩ = false
  f2 : W.frozen? ⟨z, 2, none⟩ = false
  f3 : W.frozen? ⟨z, 3, none⟩ = false
  lt : z < W.heap.size
  ne : ¬ z = W.heap.size
theorem CiR.of {z : Nat} {W : World} (h : W.heap[z]? = some (.cells #[.int .i64 0, .int .i64 0, .int .i64 0, .int .i64 0] 69 (0, 0))) : CiR z W :=
  ⟨cell_of h (i := 0) rfl, cell_of h (i := 1) rfl, cell_of h (i := 2) rfl, cell_of h (i := 3) rfl, frozen_of h 0, frozen_of h 1, frozen_of h 2, frozen_of h 3, lt_of_block h, by have := lt_of_block h; omega⟩
end Go.Proofs.YtdbnddmncbjobaaGreatDoor

/- cite.Find: walked. -/
namespace Go.Proofs.YtdbnddmncbjobaaGreatDoor
open Go Go.RowKit

/-- The page and the line of a citation. -/
def citP (b : Bk) (n s line : Int) : Option (Pg × Ln) := (pageP b n s).bind fun p => if line < 1 then none else ((p.body ++ p.nts)[(line - 1).toNat]?).map fun x => (p, x)
/-- The results' cells. -/
structure FiR (z2 z3 : Nat) (W : World) : Prop where
  h2 : W.heap[z2]? = some (.cells #[.int .i64 0, .int .i64 0, .int .i64 0, .int .i64 0, .slice none 0 0, .slice none 0 0] 84 (0, 0))
  h3 : W.heap[z3]? = some (.cells #[.int .i64 0, .int .i64 0, .slice none 0 0, .slice none 0 0] 86 (0, 0))
theorem FiR.ext {z2 z3 : Nat} {W W' : World} (h : FiR z2 z3 W) (hx : Ext W W') : FiR z2 z3 W' := ⟨(hx.block _ (lt_of_block h.h2)).trans h.h2, (hx.block _ (lt_of_block h.h3)).trans h.h3⟩
end Go.Proofs.YtdbnddmncbjobaaGreatDoor

/- rollbookref28.Book: walked. -/
namespace Go.Proofs.YtdbnddmncbjobaaGreatDoor
open Go Go.RowKit

/-- The section k of a generated book of which fr sections are frozen. -/
structure SecOk (fr k : Nat) (x : Se) : Prop where
  ent : 2 * (k : Int) ≤ x.ent ∧ x.ent ≤ 2 * (k : Int) + 1
  fz : x.fz = decide (k < fr)
  vs : ∃ m : Nat, m ≤ 2 ∧ (m ≠ 0 → k < fr) ∧ x.vers = (10 - (k : Int)) :: (List.range m).map (fun (j : Nat) => 30 + 7 * (k : Int) - 3 * (j : Int)) ∧ x.texts.length = m + 1
  tx : ∀ t ∈ x.texts, OkT t
structure OkG (b : Bk) : Prop where
  m0 : 500 ≤ b.ms
  m1 : b.ms ≤ 2000
  h0 : 4 ≤ b.ht
  h1 : b.ht ≤ 100
  n : b.secs.length ≤ 4
  s : ∃ fr : Nat, ∀ (k : Nat) (x : Se), b.secs[k]? = some x → SecOk fr k x
theorem OkG.okB {b : Bk} (h : OkG b) : OkB b 4 3 := by
  obtain ⟨fr, hs⟩ := h.s
  have hm : ∀ x ∈ b.secs, ∃ k, SecOk fr k x := fun x hx => by
    obtain ⟨k, hk⟩ := List.getElem?_of_mem hx
    exact ⟨k, hs k x hk⟩
  refine ⟨h.m0, h.m1, h.h0, h.h1, h.n, fun x hx => ?_, fun x hx => ?_, ?_⟩
  · obtain ⟨k, hk⟩ := hm x hx
    obtain ⟨m, h1, _, h2, h3⟩ := hk.vs
    exact ⟨by rw [h2, h3]; simp, by rw [h2]; simp, by omega⟩
  · obtain ⟨k, hk⟩ := hm x hx; exact hk.tx
  · rw [List.nodup_iff_pairwise_ne, List.pairwise_iff_getElem]
    intro i j hi hj hij
    rw [List.length_map] at hi hj
    have h1 := (hs i _ (List.getElem?_eq_getElem hi)).ent
    have h2 := (hs j _ (List.getElem?_eq_getElem hj)).ent
    intro e9
    rw [List.getElem_map, List.getElem_map] at e9
    omega
theorem own_new {β : Type} {k : Lay β} {X : World} {base : Nat} {P : Nat → Prop} {x : β} {cs : Array Value} {e : TypeId} (hb : base ≤ X.heap.size) (hr : k.rep X (fun j => P j ∧ j ≠ X.heap.size) x cs.toList) :
    k.own e (X.alloc (.cells cs e)) base P (.slice (some ⟨X.heap.size, 0, none⟩) 1 1) [x] := by
  obtain ⟨d0, hd0⟩ : ∃ d0 : Cs k.sz, ccf d0 = cs.toList := ⟨⟨cs.toList, k.len hr, k.one hr⟩, rfl⟩
  have hsz : cs.size = k.sz := by have := k.len hr; simpa using this
  refine ⟨[d0], ?_, rfl, fun i d y hd hy => ?_⟩
  · unfold OL
    have hg : gcells ccf [d0] = cs.toList := by simp [gcells, hd0]
    rw [hg]
    refine ⟨by simp [hsz], .inr ⟨X.heap.size, 1, cs, rfl, hb, heap_alloc_new X _, by simp, by simp [maxLen], by simp [hsz], ?_⟩⟩
    rw [List.length_singleton, Nat.one_mul, ← hsz]
    exact List.take_of_length_le (by simp)
  · cases i with
    | zero =>
      injection hd with hd
      injection hy with hy
      subst hd hy
      have h9 : k.rep X (fun j => P j ∧ j ≠ X.heap.size) x (ccf d0) := by rw [hd0]; exact hr
      exact k.ext (k.mono h9 fun j hj _ => ⟨hj.1, fun e => hj.2 (by have : some X.heap.size = some j := e; injection this with this; exact this.symm)⟩) ((Ext.refl X).alloc _)
    | succ i => cases hd
/-- Between two rounds of the outer loop: so many sections. -/
structure BgS (w : World) (ms ht : Int) (fr : Nat) (secs : List Se) (vS : Value) (W : World) : Prop where
  x : Ext w W
  r : W.heap[w.heap.size]? = some (.cells #[.int .i64 0, .int .i64 0, .slice none 0 0] 27 (0, 0))
  b : W.heap[w.heap.size + 1]? = some (.cells #[.int .i64 ms, .int .i64 ht, vS] 27 (0, 0))
  own : kSe.own 46 W (w.heap.size + 2) (fun j => w.heap.size + 2 ≤ j) vS secs
  ok : ∀ (k : Nat) (x : Se), secs[k]? = some x → SecOk fr k x
theorem BgS.size {w : World} {ms ht : Int} {fr : Nat} {secs : List Se} {vS : Value} {W : World} (h : BgS w ms ht fr secs vS W) : w.heap.size + 2 ≤ W.heap.size := lt_of_block h.b
theorem BgS.ext {w : World} {ms ht : Int} {fr : Nat} {secs : List Se} {vS : Value} {W W' : World} (h : BgS w ms ht fr secs vS W) (hx : Ext W W') : BgS w ms ht fr secs vS W' :=
  ⟨h.x.trans hx, (hx.block _ (lt_of_block h.r)).trans h.r, (hx.block _ (lt_of_block h.b)).trans h.b, Lay.own_ext h.own hx, h.ok⟩
def BgR (w : World) (ms ht : Int) (fr n : Nat) (s6 : Value) (W : World) : Prop := ∃ (secs : List Se) (A : Option Addr) (c : Nat), secs.length ≤ n ∧ s6 = .int .i64 secs.length ∧ BgS w ms ht fr secs (.slice A secs.length c) W
/-- What lies below the section that is being made. -/
structure Low (w : World) (ms ht : Int) (fr : Nat) (secs : List Se) (vS : Value) (Bs : Nat) (W : World) : Prop where
  x : Ext w W
  r : W.heap[w.heap.size]? = some (.cells #[.int .i64 0, .int .i64 0, .slice none 0 0] 27 (0, 0))
  b : W.heap[w.heap.size + 1]? = some (.cells #[.int .i64 ms, .int .i64 ht, vS] 27 (0, 0))
  own : kSe.own 46 W (w.heap.size + 2) (fun j => w.heap.size + 2 ≤ j ∧ j < Bs) vS secs
  ok : ∀ (k : Nat) (x : Se), secs[k]? = some x → SecOk fr k x
  hb : w.heap.size + 2 ≤ Bs
  hS : ∀ j, vS.ownBlock = some j → j < Bs
theorem Low.keep {w : World} {ms ht : Int} {fr : Nat} {secs : List Se} {vS : Value} {Bs : Nat} {W W' : World} (h : Low w ms ht fr secs vS Bs W) (hk : Below Bs W W') : Low w ms ht fr secs vS Bs W' :=
  ⟨Below.trans h.x (hk.mono (by have := h.hb; omega)), (hk.block _ (by have := h.hb; omega)).trans h.r, (hk.block _ (by have := h.hb; omega)).trans h.b, Lay.own_keep h.own hk.size (fun j hj _ => by
    rcases hj with hj | hj
    · exact hk.block j hj.2
    · exact hk.block j (h.hS j hj)), h.ok, h.hb, h.hS⟩
theorem BgS.low {w : World} {ms ht : Int} {fr : Nat} {secs : List Se} {vS : Value} {W : World} (h : BgS w ms ht fr secs vS W) : Low w ms ht fr secs vS W.heap.size W :=
  ⟨h.x, h.r, h.b, Lay.own_mono h.own fun _ hj hl => ⟨hj, hl⟩, h.ok, h.size, fun j hj => (Lay.own_lt h.own j hj).2⟩
/-- A section is being made: its block zs, its versions, its texts. -/
structure InS (w : World) (ms ht : Int) (fr : Nat) (secs : List Se) (vS : Value) (Bs zs : Nat) (ent : Int) (fz : Bool) (vV vT : Value) (vers : List Int) (texts : List Tx) (W : World) : Prop where
  low : Low w ms ht fr secs vS Bs W
  s : W.heap[zs]? = some (.cells #[.int .i64 ent, .bool fz, vV, vT] 46 (0, 0))
  ov : kInt.own 3 W Bs (fun _ => False) vV vers
  ot : kTx.own 53 W Bs (fun j => Bs ≤ j ∧ j ≠ zs ∧ vV.ownBlock ≠ some j) vT texts
  d1 : vV.ownBlock ≠ some zs
  d2 : vT.ownBlock ≠ some zs
  d3 : ∀ j, vV.ownBlock = some j → vT.ownBlock ≠ some j
  hz : Bs ≤ zs
theorem InS.lt {w : World} {ms ht : Int} {fr : Nat} {secs : List Se} {vS : Value} {Bs zs : Nat} {ent : Int} {fz : Bool} {vV vT : Value} {vers : List Int} {texts : List Tx} {W : World} (h : InS w ms ht fr secs vS Bs zs ent fz vV vT vers texts W) : zs < W.heap.size := lt_of_block h.s
theorem InS.ext {w : World} {ms ht : Int} {fr : Nat} {secs : List Se} {vS : Value} {Bs zs : Nat} {ent : Int} {fz : Bool} {vV vT : Value} {vers : List Int} {texts : List Tx} {W W' : World} (h : InS w ms ht fr secs vS Bs zs ent fz vV vT vers texts W) (hx : Ext W W') : InS w ms ht fr secs vS Bs zs ent fz vV vT vers texts W' :=
  ⟨h.low.keep (Below.mono hx (by have := h.lt; have := h.hz; omega)), (hx.block _ h.lt).trans h.s, Lay.own_ext h.ov hx, Lay.own_ext h.ot hx, h.d1, h.d2, h.d3, h.hz⟩
theorem InS.appV {w : World} {ms ht : Int} {fr : Nat} {secs : List Se} {vS : Value} {Bs zs : Nat} {ent : Int} {fz : Bool} {vV vT : Value} {vers : List Int} {texts : List Tx} {W : World} (h : InS w ms ht fr secs vS Bs zs ent fz vV vT vers texts W) (x : Int) (hm : vers.length ≤ 1000) :
    ∃ A' c' w', (Builtin.append_ #[22, 22] 22 #[vV, .slice (some ⟨W.heap.size, 0, none⟩) 1 1]).run Tryz.prog (W.alloc (.cells #[.int .i64 x] 3)) = .ok (.slice A' (vers.length + 1) c') w' ∧
      w'.heap[zs]? = some (.cells #[.int .i64 ent, .bool fz, vV, vT] 46 (0, 0)) ∧ InS w ms ht fr secs vS Bs zs ent fz (.slice A' (vers.length + 1) c') vT (vers ++ [x]) texts (w'.setCell ⟨zs, 2, none⟩ (.slice A' (vers.length + 1) c')) := by
  have hlz := h.lt
  have hzb := h.hz
  obtain ⟨A', c', w', r1, r2, r3, r4, r5, r6⟩ := own_app1 (k := kInt) (Pr := Tryz.prog) (t := 22) Tryz.underlying22 info3 rfl (by decide) (by omega) h.ov (by omega) (cs := #[.int .i64 x]) (T := 3) (x := x) rfl 1 (by omega)
  have hzs : w'.heap[zs]? = some (.cells #[.int .i64 ent, .bool fz, vV, vT] 46 (0, 0)) := (r4 zs hlz h.d1).trans h.s
  have g1 : (Value.slice A' (vers.length + 1) c').ownBlock ≠ some zs := fun e => by
    rcases r6 zs e with e | e
    · exact h.d1 e
    · omega
  refine ⟨A', c', w', r1, hzs, ⟨(h.low.keep (r3 Bs (Nat.le_refl _))).keep (Below.setCell (Below.refl _ _) hzb _), ?_, Lay.own_keep r2 (by simp) ?_, ?_, g1, h.d2, ?_, hzb⟩⟩
  · exact heap_setCell_same w' zs 2 _ 46 _ hzs
  · intro j hj _
    rcases hj with hj | hj
    · exact hj.elim
    · exact heap_setCell_other w' ⟨zs, 2, none⟩ j _ (fun e => g1 (hj.trans (congrArg some e)))
  · have h1 := Lay.own_mono (P' := fun j => (Bs ≤ j ∧ j ≠ zs ∧ vV.ownBlock ≠ some j) ∧ (Value.slice A' (vers.length + 1) c').ownBlock ≠ some j) h.ot fun j hj hl => ⟨hj, fun e => by
      rcases r6 j e with e | e
      · exact hj.2.2 e
      · omega⟩
    have h2 := Lay.own_keep h1 r5 fun j hj hl => r4 j hl (by
      rcases hj with hj | hj
      · exact hj.1.2.2
      · exact fun e => h.d3 j e hj)
    have h3 := Lay.own_keep (W' := w'.setCell ⟨zs, 2, none⟩ (.slice A' (vers.length + 1) c')) h2 (by simp) fun j hj _ => heap_setCell_other w' ⟨zs, 2, none⟩ j _ (by
      rcases hj with hj | hj
      · exact hj.1.2.1
      · exact fun e => h.d2 (hj.trans (congrArg some e)))
    exact Lay.own_mono h3 fun j hj _ => ⟨hj.1.1, hj.1.2.1, hj.2⟩
  · intro j hj e
    rcases r6 j hj with h9 | h9
    · exact h.d3 j h9 e
    · have := (Lay.own_lt h.ot j e).2; omega
theorem InS.appT {w : World} {ms ht : Int} {fr : Nat} {secs : List Se} {vS : Value} {Bs zs : Nat} {ent : Int} {fz : Bool} {vV vT : Value} {vers : List Int} {texts : List Tx} {W W1 : World} (h : InS w ms ht fr secs vS Bs zs ent fz vV vT vers texts W) (hx : Ext W W1) {t : Tx} {A1 A2 : Option Addr} {n1 c1 n2 c2 : Nat} (hg : GT W.heap.size t (.agg #[.slice A1 n1 c1, .slice A2 n2 c2]) W1) (hm : texts.length ≤ 1000) :
    ∃ A' c' w', (Builtin.append_ #[44, 44] 44 #[vT, .slice (some ⟨W1.heap.size, 0, none⟩) 1 1]).run Tryz.prog (W1.alloc (.cells #[.slice A1 n1 c1, .slice A2 n2 c2] 53)) = .ok (.slice A' (texts.length + 1) c') w' ∧
      w'.heap[zs]? = some (.cells #[.int .i64 ent, .bool fz, vV, vT] 46 (0, 0)) ∧ InS w ms ht fr secs vS Bs zs ent fz vV (.slice A' (texts.length + 1) c') vers (texts ++ [t]) (w'.setCell ⟨zs, 3, none⟩ (.slice A' (texts.length + 1) c')) := by
  have hlz := h.lt
  have hzb := h.hz
  have h' := h.ext hx
  have hvl := Lay.own_lt h.ov
  have htl := Lay.own_lt h.ot
  obtain ⟨B1, m1, d1, B2, m2, d2, e9, k1, k2, k3, k4⟩ := hg
  have e10 := (Value.agg.inj e9)
  simp only [Array.mk.injEq, List.cons.injEq, Value.slice.injEq, and_true] at e10
  obtain ⟨⟨rfl, rfl, rfl⟩, rfl, rfl, rfl⟩ := e10
  have hP : ∀ j, W.heap.size ≤ j → j < W1.heap.size → (Bs ≤ j ∧ j ≠ zs ∧ vV.ownBlock ≠ some j) ∧ vT.ownBlock ≠ some j := fun j hj _ => ⟨⟨by omega, by omega, fun e => by have := (hvl j e).2; omega⟩, fun e => by have := (htl j e).2; omega⟩
  obtain ⟨A', c', w', r1, r2, r3, r4, r5, r6⟩ := own_app1 (k := kTx) (Pr := Tryz.prog) (t := 44) Tryz.underlying44 info53 rfl (by decide) (by omega) h'.ot (by have := hx.lt; omega) (cs := #[.slice A1 n1 c1, .slice A2 n2 c2]) (T := 53) (x := t)
    (kTx_rep.2 ⟨_, _, _, _, _, _, rfl, k1, k2, Lay.row_mono k3 hP, Lay.row_mono k4 hP⟩) 1 (by omega)
  have hzs : w'.heap[zs]? = some (.cells #[.int .i64 ent, .bool fz, vV, vT] 46 (0, 0)) := (r4 zs h'.lt h.d2).trans h'.s
  have g1 : (Value.slice A' (texts.length + 1) c').ownBlock ≠ some zs := fun e => by
    rcases r6 zs e with e | e
    · exact h.d2 e
    · have := h'.lt; omega
  refine ⟨A', c', w', r1, hzs, ⟨(h'.low.keep (r3 Bs (Nat.le_refl _))).keep (Below.setCell (Below.refl _ _) hzb _), ?_, ?_, Lay.own_keep r2 (by simp) ?_, h.d1, g1, ?_, hzb⟩⟩
  · exact heap_setCell_same w' zs 3 _ 46 _ hzs
  · have h2 := Lay.own_keep h'.ov r5 fun j hj hl => r4 j hl (by
      rcases hj with hj | hj
      · exact hj.elim
      · exact h.d3 j hj)
    refine Lay.own_keep h2 (by simp) fun j hj _ => heap_setCell_other w' ⟨zs, 3, none⟩ j _ ?_
    rcases hj with hj | hj
    · exact hj.elim
    · exact fun e => h.d1 (hj.trans (congrArg some e))
  · intro j hj _
    refine heap_setCell_other w' ⟨zs, 3, none⟩ j _ ?_
    rcases hj with hj | hj
    · exact hj.2.1
    · exact fun e => g1 (hj.trans (congrArg some e))
  · intro j hj e
    rcases r6 j e with h9 | h9
    · exact h.d3 j hj h9
    · have := (hvl j hj).2; have := hx.lt; omega
theorem InS.firstT {w : World} {ms ht : Int} {fr : Nat} {secs : List Se} {vS : Value} {Bs zs : Nat} {ent : Int} {fz : Bool} {vV : Value} {vers : List Int} {W W1 : World} (h : InS w ms ht fr secs vS Bs zs ent fz vV (.slice none 0 0) vers [] W) (hx : Ext W W1) {t : Tx} {A1 A2 : Option Addr} {n1 c1 n2 c2 : Nat} (hg : GT W.heap.size t (.agg #[.slice A1 n1 c1, .slice A2 n2 c2]) W1) :
    InS w ms ht fr secs vS Bs zs ent fz vV (.slice (some ⟨W1.heap.size, 0, none⟩) 1 1) vers [t] ((W1.setCell ⟨zs, 3, none⟩ (.slice (some ⟨W1.heap.size, 0, none⟩) 1 1)).alloc (.cells #[.slice A1 n1 c1, .slice A2 n2 c2] 53)) := by
  have hlz := h.lt
  have hzb := h.hz
  have h' := h.ext hx
  have hxl := hx.lt
  have hvl := Lay.own_lt h.ov
  obtain ⟨B1, m1, d1, B2, m2, d2, e9, k1, k2, k3, k4⟩ := hg
  have e10 := (Value.agg.inj e9)
  simp only [Array.mk.injEq, List.cons.injEq, Value.slice.injEq, and_true] at e10
  obtain ⟨⟨rfl, rfl, rfl⟩, rfl, rfl, rfl⟩ := e10
  obtain ⟨Y, hY⟩ : ∃ Y, W1.setCell ⟨zs, 3, none⟩ (.slice (some ⟨W1.heap.size, 0, none⟩) 1 1) = Y := ⟨_, rfl⟩
  have hYs : Y.heap.size = W1.heap.size := by rw [← hY]; simp
  have hYk : ∀ j, j ≠ zs → Y.heap[j]? = W1.heap[j]? := fun j hj => by rw [← hY]; exact heap_setCell_other W1 ⟨zs, 3, none⟩ j _ hj
  have hYz : Y.heap[zs]? = some (.cells #[.int .i64 ent, .bool fz, vV, .slice (some ⟨W1.heap.size, 0, none⟩) 1 1] 46 (0, 0)) := by rw [← hY]; exact heap_setCell_same W1 zs 3 _ 46 _ h'.s
  have hYb : Below Bs W1 Y := by rw [← hY]; exact Below.setCell (Below.refl _ _) hzb _
  rw [hY]
  have hxa : Ext Y (Y.alloc (.cells #[.slice A1 n1 c1, .slice A2 n2 c2] 53)) := (Ext.refl Y).alloc _
  have hot : kTx.own 53 (Y.alloc (.cells #[.slice A1 n1 c1, .slice A2 n2 c2] 53)) Bs (fun j => Bs ≤ j ∧ j ≠ zs ∧ vV.ownBlock ≠ some j) (.slice (some ⟨Y.heap.size, 0, none⟩) 1 1) [t] := by
    refine own_new (by omega) (kTx_rep.2 ⟨_, _, _, _, _, _, rfl, k1, k2, ?_, ?_⟩)
    · exact Lay.row_mono (Lay.row_keep (Lay.row_mono (Q := fun j => W.heap.size ≤ j ∧ j < W1.heap.size) k3 fun j hj hl => ⟨hj, hl⟩) (by omega) fun j hj _ => hYk j (by omega)) fun j hj _ => ⟨⟨by omega, by omega, fun e => by have := (hvl j e).2; omega⟩, by omega⟩
    · exact Lay.row_mono (Lay.row_keep (Lay.row_mono (Q := fun j => W.heap.size ≤ j ∧ j < W1.heap.size) k4 fun j hj hl => ⟨hj, hl⟩) (by omega) fun j hj _ => hYk j (by omega)) fun j hj _ => ⟨⟨by omega, by omega, fun e => by have := (hvl j e).2; omega⟩, by omega⟩
  rw [hYs] at hot
  refine ⟨(h'.low.keep hYb).keep (Below.mono hxa (by omega)), (hxa.block _ (by omega)).trans hYz, Lay.own_ext (Lay.own_keep h'.ov (by omega) fun j hj hl => ?_) hxa, hot, h.d1, ?_, ?_, hzb⟩
  · rcases hj with hj | hj
    · exact hj.elim
    · exact hYk j fun e => h.d1 (hj.trans (congrArg some e))
  · intro e; have : some W1.heap.size = some zs := e; injection this; omega
  · intro j hj e
    have : some W1.heap.size = some j := e
    injection this with this
    have := (hvl j hj).2
    omega
/-- Between two rounds of the inner loop. -/
def InR (w : World) (ms ht : Int) (fr : Nat) (secs : List Se) (vS : Value) (Bs zs : Nat) (ent : Int) (fz : Bool) (v0 : Int) (i : Nat) (s8 : Value) (W : World) : Prop :=
  ∃ (k : Nat) (A B : Option Addr) (c d : Nat) (vers : List Int) (texts : List Tx), k ≤ 2 ∧ s8 = .int .i64 k ∧ (k ≠ 0 → fz = true) ∧ vers = v0 :: (List.range k).map (fun (j : Nat) => 30 + 7 * (i : Int) - 3 * (j : Int)) ∧ texts.length = k + 1 ∧ (∀ t ∈ texts, OkT t) ∧
    InS w ms ht fr secs vS Bs zs ent fz (.slice A (k + 1) c) (.slice B (k + 1) d) vers texts W
theorem InS.fin {w : World} {ms ht : Int} {fr : Nat} {secs : List Se} {vS : Value} {Bs zs : Nat} {ent : Int} {fz : Bool} {vV vT : Value} {vers : List Int} {texts : List Tx} {W : World} (h : InS w ms ht fr secs vS Bs zs ent fz vV vT vers texts W) (hm : secs.length ≤ 1000) (hok : SecOk fr secs.length ⟨ent, fz, vers, texts⟩) :
    ∃ A' c' w', (Builtin.append_ #[25, 25] 25 #[vS, .slice (some ⟨W.heap.size, 0, none⟩) 1 1]).run Tryz.prog (W.alloc (.cells #[.int .i64 ent, .bool fz, vV, vT] 46)) = .ok (.slice A' (secs.length + 1) c') w' ∧
      w'.heap[w.heap.size + 1]? = some (.cells #[.int .i64 ms, .int .i64 ht, vS] 27 (0, 0)) ∧ BgS w ms ht fr (secs ++ [⟨ent, fz, vers, texts⟩]) (.slice A' (secs.length + 1) c') (w'.setCell ⟨w.heap.size + 1, 2, none⟩ (.slice A' (secs.length + 1) c')) := by
  have hlz := h.lt
  have hzb := h.hz
  have hwb := h.low.hb
  obtain ⟨A1, c1, e1, k1, v1⟩ := own_rowN (Q := fun j => w.heap.size + 2 ≤ j ∧ vS.ownBlock ≠ some j) h.ov (fun j hj => hj.elim) (fun j hj _ => ⟨by omega, fun e => by have := h.low.hS j e; omega⟩)
  obtain ⟨A2, c2, e2, k2, v2⟩ := own_rowN (Q := fun j => w.heap.size + 2 ≤ j ∧ vS.ownBlock ≠ some j) h.ot (fun j hj _ => ⟨by omega, fun e => by have := h.low.hS j e; omega⟩) (fun j hj _ => ⟨by omega, fun e => by have := h.low.hS j e; omega⟩)
  have hoS := Lay.own_mono (P' := fun j => w.heap.size + 2 ≤ j) h.low.own fun j hj _ => hj.1
  have hSl := Lay.own_lt h.low.own
  obtain ⟨A', c', w', r1, r2, r3, r4, r5, r6⟩ := own_app1 (k := kSe) (Pr := Tryz.prog) (t := 25) Tryz.underlying25 info46 rfl (by decide) (by omega) hoS (by omega) (cs := #[.int .i64 ent, .bool fz, vV, vT]) (T := 46) (x := ⟨ent, fz, vers, texts⟩)
    (by rw [e1, e2]; exact kSe_rep.2 ⟨_, _, _, _, _, _, rfl, k1, k2, v1, v2⟩) 1 (by omega)
  have hb1 : w'.heap[w.heap.size + 1]? = some (.cells #[.int .i64 ms, .int .i64 ht, vS] 27 (0, 0)) := (r4 _ (by omega) (fun e => by have := (hSl _ e).1; omega)).trans h.low.b
  have hr1 : w'.heap[w.heap.size]? = _ := (r4 _ (by omega) (fun e => by have := (hSl _ e).1; omega)).trans h.low.r
  refine ⟨A', c', w', r1, hb1, ⟨?_, ?_, heap_setCell_same w' (w.heap.size + 1) 2 _ 27 _ hb1, Lay.own_keep r2 (by simp) ?_, ?_⟩⟩
  · exact Ext.setCell (p := ⟨w.heap.size + 1, 2, none⟩) (Below.trans h.low.x (r3 w.heap.size (by omega))) (by show w.heap.size ≤ w.heap.size + 1; omega) _
  · rw [heap_setCell_other w' ⟨w.heap.size + 1, 2, none⟩ w.heap.size _ (by show w.heap.size ≠ w.heap.size + 1; omega)]; exact hr1
  · intro j hj _
    refine heap_setCell_other w' ⟨w.heap.size + 1, 2, none⟩ j _ ?_
    show j ≠ w.heap.size + 1
    rcases hj with hj | hj
    · omega
    · have := (Lay.own_lt r2 j hj).1; omega
  · intro k x hk
    rw [List.getElem?_append] at hk
    split at hk
    · exact h.low.ok k x hk
    · next hlt =>
      have hk0 : k - secs.length = 0 := by
        have := (List.getElem?_eq_some_iff.1 hk).1
        simp at this; omega
      rw [hk0] at hk
      injection hk with hk
      subst hk
      rw [show k = secs.length by omega]
      exact hok
def BookGet (w : World) (e : Ending) (w' : World) : Prop := ∃ (b : Bk) (A : Option Addr) (n c : Nat), e = .returned (.agg #[.int .i64 b.ms, .int .i64 b.ht, .slice A n c]) ∧ OkG b ∧ n ≤ c ∧ kSe.row w' (fun j => w.heap.size ≤ j) A n b.secs ∧ Ext w w'
end Go.Proofs.YtdbnddmncbjobaaGreatDoor

/- rollbookref28.Book: walked. -/
namespace Go.Proofs.YtdbnddmncbjobaaGreatDoor
open Go Go.RowKit

set_option maxHeartbeats 8000000 in
set_option maxRecDepth 100000 in
theorem gbook_any (A : Option Addr) (c : Nat) (l : List Int) (w : World) (h : IL w A c l) (hl : l.length ≤ 9223372036854775807) :
    Calls Tryz.prog 39 #[.slice A l.length c] w (BookGet w) := by
  have HTX := Lib.hid (fun W (hW : Ext w W) (k : Nat) (hk : k ≤ 1000000) => gtextat_any A c l k W (h.ext hW) hl hk)
  obtain ⟨m, hm⟩ : ∃ m, m = l.length := ⟨_, rfl⟩
  have HP := Lib.hid (fun W (hW : Ext w W) (i k : Nat) (ii mm : Int) h1 h2 h3 h4 => (show Calls Tryz.prog 77 #[.slice A m c, .int .i64 ii, .int .i64 mm] W (fun e w' => e = .returned (.int .i64 (pkI l i k)) ∧ W = w') from by rw [hm]; exact pick_fix A c l i k W ii mm h1 h2 h3 h4 h.ok (h.sl.ext hW)))
  rw [← hm] at HTX ⊢
  clear hm h hl
  obtain ⟨k0, hk0, hk0b⟩ := pk_nat l 0 30 (by omega)
  obtain ⟨k1, hk1, hk1b⟩ := pk_nat l 1 5 (by omega)
  obtain ⟨n, hn, hnb⟩ := pk_nat l 2 5 (by omega)
  obtain ⟨fr, hfr, hfrb⟩ := pk_nat l 3 (n + 1) (by omega)
  have H0 := Lib.hid (fun W hW => (show Calls Tryz.prog 77 #[.slice A m c, .int .i64 0, .int .i64 30] W (fun e w' => e = .returned (.int .i64 (k0 : Int)) ∧ W = w') from by rw [← hk0]; exact HP.out W hW 0 30 0 30 rfl rfl (by omega) (by omega)))
  have H1 := Lib.hid (fun W hW => (show Calls Tryz.prog 77 #[.slice A m c, .int .i64 1, .int .i64 5] W (fun e w' => e = .returned (.int .i64 (k1 : Int)) ∧ W = w') from by rw [← hk1]; exact HP.out W hW 1 5 1 5 rfl rfl (by omega) (by omega)))
  have H2 := Lib.hid (fun W hW => (show Calls Tryz.prog 77 #[.slice A m c, .int .i64 2, .int .i64 5] W (fun e w' => e = .returned (.int .i64 (n : Int)) ∧ W = w') from by rw [← hn]; exact HP.out W hW 2 5 2 5 rfl rfl (by omega) (by omega)))
  have H3 := Lib.hid (fun W hW => (show Calls Tryz.prog 77 #[.slice A m c, .int .i64 3, .int .i64 ((n : Int) + 1)] W (fun e w' => e = .returned (.int .i64 (fr : Int)) ∧ W = w') from by rw [← hfr]; exact HP.out W hW 3 (n + 1) 3 _ rfl (by simp) (by omega) (by omega)))
  clear hk0 hk1 hn hfr
  go_enter Tryz.func39, Tryz.ntmps39
  have hx1 : Ext w (w.alloc (.cells #[.int .i64 0, .int .i64 0, .slice none 0 0] 27)) := (Ext.refl w).alloc _
  go_upto_region 2 with (first
    | (have hg := A1; clear hg; go_at_call 77; refine (H1.out _ hx1).mono ?_; rintro e w1 ⟨rfl, rfl⟩)
    | (go_at_call 77; refine (H0.out _ hx1).mono ?_; rintro e w1 ⟨rfl, rfl⟩; have A1 := Lib.hid True.intro))
  obtain ⟨wl, hwl⟩ : ∃ wl, ((w.alloc (.cells #[.int .i64 0, .int .i64 0, .slice none 0 0] 27)).alloc (.cells #[.int .i64 (500 + 20 * (k0 : Int)), .int .i64 (4 + (k1 : Int)), .slice none 0 0] 27)) = wl := ⟨_, rfl⟩
  obtain ⟨ms, hms⟩ : ∃ ms : Int, ms = 500 + 20 * (k0 : Int) := ⟨_, rfl⟩
  obtain ⟨ht, hht⟩ : ∃ ht : Int, ht = 4 + (k1 : Int) := ⟨_, rfl⟩
  have hS0 : BgS w ms ht fr [] (.slice none 0 0) wl := by
    refine ⟨by rw [← hwl]; exact hx1.alloc _, ?_, ?_, Lay.own_nil _ _ _ _ _, fun k x hk => by simp at hk⟩
    · rw [← hwl, heap_alloc_old _ _ _ (by simp)]; exact heap_alloc_at _ _ _ _ rfl
    · rw [← hwl, hms, hht]; exact heap_alloc_at _ _ _ _ (by simp)
  rw [hwl]
  have HM := Lib.hid (And.intro hms hht)
  have HS0 := Lib.hid hS0
  have HXL := Lib.hid hS0.x
  clear hwl hms hht hS0 hx1
  go_upto_region 3 with (first | (go_at_call 77; refine (H2.out _ HXL.out).mono ?_; rintro e w1 ⟨rfl, rfl⟩))
  go_upto_region 4 with (first | (go_at_call 77; refine (H3.out _ HXL.out).mono ?_; rintro e w1 ⟨rfl, rfl⟩))
  clear H0 H1 H2 H3 A1
  go_wp2_with fail
  go_loopw [6] (fun s6 W => BgR w ms ht fr n s6 W) (fun s6 _ => toM n s6)
  case atStart => exact ⟨[], none, 0, by simp, rfl, HS0.out⟩
  case round =>
    obtain ⟨secs, As, cs, hi, rfl, hS⟩ := hrel
    clear HS0 HXL
    obtain ⟨i, hie⟩ : ∃ i, secs.length = i := ⟨_, rfl⟩
    rw [hie] at hi hS ⊢
    have HI := Lib.hid hie
    have HS := Lib.hid hS
    clear hie hS
    by_cases hlt : i < n
    case neg =>
      obtain rfl : i = n := by omega
      have hni : ¬ ((i : Int) < (i : Int)) := by omega
      have k0 := cell_of HS.out.r (i := 0) (u := .int .i64 0) rfl
      have k1 := cell_of HS.out.r (i := 1) (u := .int .i64 0) rfl
      have k2 := cell_of HS.out.r (i := 2) (u := .slice none 0 0) rfl
      have f0 := frozen_of HS.out.r 0
      have f1 := frozen_of HS.out.r 1
      have f2 := frozen_of HS.out.r 2
      have b0 := cell_of HS.out.b (i := 0) (u := .int .i64 ms) rfl
      have b1 := cell_of HS.out.b (i := 1) (u := .int .i64 ht) rfl
      have b2 := cell_of HS.out.b (i := 2) (u := .slice As i cs) rfl
      go_wp2_with fail
      have hrow := own_rowN (Q := fun j => w.heap.size + 2 ≤ j) HS.out.own (fun j hj _ => hj) (fun j hj _ => hj)
      obtain ⟨A9, c9, e9, hc9, hr9⟩ := hrow
      rw [HI.out] at e9 hc9 hr9
      obtain ⟨rfl, _, rfl⟩ := Value.slice.inj e9
      refine bodyPost_ret (v := .agg #[.int .i64 ms, .int .i64 ht, .slice As i cs]) (by simp [results, Tryz.results39, go_sem, *]) rfl ?_
      obtain ⟨hm1, hm2⟩ := HM.out
      refine ⟨⟨ms, ht, secs⟩, As, i, cs, rfl, ⟨by show 500 ≤ ms; omega, by show ms ≤ 2000; omega, by show 4 ≤ ht; omega, by show ht ≤ 100; omega, by show secs.length ≤ 4; have := HI.out; omega, ⟨fr, HS.out.ok⟩⟩, hc9, ?_, ?_⟩
      · refine Lay.row_mono (Lay.row_keep hr9 (by simp) fun j hj _ => ?_) fun j hj _ => by omega
        rw [heap_setCell_other _ ⟨w.heap.size, 2, none⟩ j _ (by show j ≠ w.heap.size; omega), heap_setCell_other _ ⟨w.heap.size, 1, none⟩ j _ (by show j ≠ w.heap.size; omega), heap_setCell_other _ ⟨w.heap.size, 0, none⟩ j _ (by show j ≠ w.heap.size; omega)]
      · exact ((HS.out.x.setCell (p := ⟨w.heap.size, 0, none⟩) (Nat.le_refl _) _).setCell (p := ⟨w.heap.size, 1, none⟩) (Nat.le_refl _) _).setCell (p := ⟨w.heap.size, 2, none⟩) (Nat.le_refl _) _
    have hlI : (i : Int) < (n : Int) := by omega
    obtain ⟨k4, hk4, hk4b⟩ := pk_nat l (4 + i) 2 (by omega)
    have H4 := Lib.hid (fun W hW => (show Calls Tryz.prog 77 #[.slice A m c, .int .i64 (4 + (i : Int)), .int .i64 2] W (fun e w' => e = .returned (.int .i64 (k4 : Int)) ∧ W = w') from by rw [← hk4]; exact HP.out W hW (4 + i) 2 _ _ (by omega) rfl (by omega) (by omega)))
    clear hk4
    go_upto_region 8 with (first | (go_at_call 77; refine (H4.out _ HS.out.x).mono ?_; rintro e w1 ⟨rfl, rfl⟩))
    obtain ⟨Bs, hBs⟩ : ∃ Bs, wr.heap.size = Bs := ⟨_, rfl⟩
    obtain ⟨ent, hent⟩ : ∃ ent : Int, 2 * (i : Int) + (k4 : Int) = ent := ⟨_, rfl⟩
    obtain ⟨fz, hfz⟩ : ∃ fz : Bool, decide (i < fr) = fz := ⟨_, rfl⟩
    obtain ⟨v0, hv0⟩ : ∃ v0 : Int, 10 - (i : Int) = v0 := ⟨_, rfl⟩
    obtain ⟨w1, hw1⟩ : ∃ w1, (wr.alloc (.cells #[.int .i64 v0] 3)).alloc (.cells #[.int .i64 ent, .bool fz, .slice (some ⟨Bs, 0, none⟩) 1 1, .slice none 0 0] 46) = w1 := ⟨_, rfl⟩
    obtain ⟨zs, hzs⟩ : ∃ zs, Bs + 1 = zs := ⟨_, rfl⟩
    rw [hBs, hent, hfz, hv0]
    rw [hw1, hzs]
    have HIN := Lib.hid (show InS w ms ht fr secs (.slice As i cs) Bs zs ent fz (.slice (some ⟨Bs, 0, none⟩) 1 1) (.slice none 0 0) [v0] [] w1 from by
      have hlow := HS.out.low
      rw [hBs] at hlow
      have hxv : Ext wr (wr.alloc (.cells #[.int .i64 v0] 3)) := (Ext.refl wr).alloc _
      have hx1 : Ext wr w1 := by rw [← hw1]; exact hxv.alloc _
      have ho : kInt.own 3 (wr.alloc (.cells #[.int .i64 v0] 3)) Bs (fun _ => False) (.slice (some ⟨wr.heap.size, 0, none⟩) 1 1) [v0] := own_new (by omega) rfl
      rw [hBs] at ho
      refine ⟨hlow.keep (by rw [← hBs]; exact hx1), ?_, ?_, Lay.own_nil _ _ _ _ _, ?_, ?_, ?_, by omega⟩
      · rw [← hw1]; exact heap_alloc_at _ _ _ _ (by simp; omega)
      · rw [← hw1]; exact Lay.own_ext ho ((Ext.refl _).alloc _)
      · intro e; have : some Bs = some zs := e; injection this; omega
      · intro e; cases e
      · intro j _ e; cases e)
    have HSO := Lib.hid (And.intro hent (And.intro hfz hv0))
    have HB := Lib.hid hBs
    have HK4 := Lib.hid (show k4 ≤ 1 by omega)
    clear hBs hent hfz hv0 hw1 hzs
    have HT8 := Lib.hid (fun W (hW : Ext w W) => (show Calls Tryz.prog 87 #[.slice A m c, .int .i64 (12 + 6 * (i : Int))] W (TextGet W) from by
      have h9 := HTX.out W hW (12 + 6 * i) (by omega)
      rw [show ((12 + 6 * i : Nat) : Int) = 12 + 6 * (i : Int) by omega] at h9
      exact h9))
    have HT8' := Lib.hid (show Calls Tryz.prog 87 #[.slice A m c, .int .i64 (12 + 6 * (i : Int))] w1 (fun e w2 => ∃ t A1 n1 c1 A2 n2 c2, e = .returned (.agg #[.slice A1 n1 c1, .slice A2 n2 c2]) ∧ OkT t ∧ GT w1.heap.size t (.agg #[.slice A1 n1 c1, .slice A2 n2 c2]) w2 ∧ Ext w1 w2 ∧ w2.heap[zs]? = some (.cells #[.int .i64 ent, .bool fz, .slice (some ⟨Bs, 0, none⟩) 1 1, .slice none 0 0] 46 (0, 0))) from by
      refine (HT8.out w1 HIN.out.low.x).mono ?_
      rintro e w2 ⟨t, v, rfl, hok, hgt, hx⟩
      have hg2 := hgt
      obtain ⟨A1, n1, c1, A2, n2, c2, rfl, h1, h2, h3, h4⟩ := hgt
      exact ⟨t, A1, n1, c1, A2, n2, c2, rfl, hok, hg2, hx, (hx.block _ HIN.out.lt).trans HIN.out.s⟩)
    clear HT8
    go_upto_region 9 with (first | (go_at_call 87; refine (HT8'.out).mono ?_; rintro e w2 ⟨t, A1, n1, c1, A2, n2, c2, rfl, hok, hg, hx, hh⟩; have k3 := cell_of hh (i := 3) (u := .slice none 0 0) rfl; have f3 := frozen_of hh 3; have hzl := lt_of_block hh; have hzn : ¬ zs = w2.heap.size := (by omega); have HG := Lib.hid hg; have HX := Lib.hid hx; have HH := Lib.hid hh; have HOK := Lib.hid hok; clear hg hx hh hok))
    obtain ⟨w3, hw3⟩ : ∃ w3, ((w2.setCell ⟨zs, 3, none⟩ (.slice (some ⟨w2.heap.size, 0, none⟩) 1 1)).alloc (.cells #[.slice A1 n1 c1, .slice A2 n2 c2] 53)) = w3 := ⟨_, rfl⟩
    have hin3 := HIN.out.firstT HX.out HG.out
    obtain ⟨zt, hzt⟩ : ∃ zt, w2.heap.size = zt := ⟨_, rfl⟩
    rw [hzt] at hw3 hin3 ⊢
    rw [hw3] at hin3 ⊢
    have HIN3 := Lib.hid hin3
    clear hin3 hw3 hzt HIN HX HG HH HT8' hzl hzn k3 f3 H4
    obtain ⟨k8, hk8, hk8b⟩ := pk_nat l (8 + i) 3 (by omega)
    have H8 := Lib.hid (fun W hW => (show Calls Tryz.prog 77 #[.slice A m c, .int .i64 (8 + (i : Int)), .int .i64 3] W (fun e w' => e = .returned (.int .i64 (k8 : Int)) ∧ W = w') from by rw [← hk8]; exact HP.out W hW (8 + i) 3 _ _ (by omega) rfl (by omega) (by omega)))
    clear hk8
    go_wp2_with fail
    go_loopw [8] (fun s8 W => InR w ms ht fr secs (.slice As i cs) Bs zs ent fz v0 i s8 W) (fun s8 _ => toM 10 s8)
    case atStart => exact ⟨0, _, _, _, _, _, _, by omega, rfl, fun h => absurd rfl h, rfl, rfl, fun t ht => by (simp only [List.mem_singleton] at ht; subst ht; exact HOK.out), HIN3.out⟩
    case round =>
      clear HIN3 HS HOK
      rename World => wi
      obtain ⟨k, Av, Bt, cv, dt, vers, texts, hk2, rfl, hkf, hve, htl, hto, hIn⟩ := hrel
      have HVE := Lib.hid hve
      have HTL := Lib.hid htl
      have HTO := Lib.hid hto
      have HKF := Lib.hid hkf
      have HIN := Lib.hid hIn
      have s0 := cell_of hIn.s (i := 0) (u := .int .i64 ent) rfl
      have s1 := cell_of hIn.s (i := 1) (u := .bool fz) rfl
      have s2 := cell_of hIn.s (i := 2) (u := .slice Av (k + 1) cv) rfl
      have s3 := cell_of hIn.s (i := 3) (u := .slice Bt (k + 1) dt) rfl
      have f2 := frozen_of hIn.s 2
      have f3 := frozen_of hIn.s 3
      have hzl := hIn.lt
      clear hkf hve htl hto hIn
      by_cases hkk : k < k8 ∧ fz = true
      case neg =>
        have HSC := Lib.hid (show SecOk fr secs.length ⟨ent, fz, vers, texts⟩ from by
          obtain ⟨e1, e2, e3⟩ := HSO.out
          rw [HI.out]
          refine ⟨⟨by show 2 * (i : Int) ≤ ent; omega, by show ent ≤ 2 * (i : Int) + 1; have := HK4.out; omega⟩, e2.symm, ⟨k, hk2, fun h0 => ?_, by rw [e3]; exact HVE.out, HTL.out⟩, HTO.out⟩
          have := HKF.out h0
          rw [← e2] at this
          simpa using this)
        obtain ⟨A5, c5, w5, hrun, hb5, hS5⟩ := HIN.out.fin (by have := HI.out; omega) HSC.out
        rw [HI.out] at hrun hS5
        have HREL := Lib.hid (show BgR w ms ht fr n (.int .i64 ((i : Int) + 1)) (w5.setCell ⟨w.heap.size + 1, 2, none⟩ (.slice A5 (i + 1) c5)) from
          ⟨secs ++ [⟨ent, fz, vers, texts⟩], A5, c5, by rw [List.length_append, HI.out]; exact hlt, by rw [List.length_append, HI.out]; rfl, by rw [List.length_append, HI.out]; exact hS5⟩)
        have b2 := cell_of HIN.out.low.b (i := 2) (u := .slice As i cs) rfl
        have hbl : w.heap.size + 1 < wi.heap.size := lt_of_block HIN.out.low.b
        have hbn : ¬ w.heap.size + 1 = wi.heap.size := by omega
        have b5 := cell_of hb5 (i := 2) (u := .slice As i cs) rfl
        have g5 := frozen_of hb5 2
        have hzn : ¬ zs = wi.heap.size := by omega
        clear hS5 hb5 hk2
        by_cases hk9 : k < k8
        · have hf9 : fz = false := by
            cases fz
            · rfl
            · exact absurd ⟨hk9, rfl⟩ hkk
          subst hf9
          have gk : decide ((k : Int) < (k8 : Int)) = true := by rw [decide_eq_true_eq]; omega
          have gk2 : decide (k < k8) = true := by simpa using hk9
          clear hkk
          go_wp2_with (first
            | (go_at_call 77; refine (H8.out _ HIN.out.low.x).mono ?_; rintro e w1 ⟨rfl, rfl⟩)
            | (at_builtin; refine wpList_append_run (s := .tmp 86) (x := .tmp 88) hrun rfl rfl rfl rfl rfl ?_))
          go_roundw
          case rel => exact HREL.out
          case measure => simp only [toM]; omega
        · have gk : decide ((k : Int) < (k8 : Int)) = false := by rw [decide_eq_false_iff_not]; omega
          have gk2 : decide (k < k8) = false := by simpa using hk9
          clear hkk
          go_wp2_with (first
            | (go_at_call 77; refine (H8.out _ HIN.out.low.x).mono ?_; rintro e w1 ⟨rfl, rfl⟩)
            | (at_builtin; refine wpList_append_run (s := .tmp 86) (x := .tmp 88) hrun rfl rfl rfl rfl rfl ?_))
          go_roundw
          case rel => exact HREL.out
          case measure => simp only [toM]; omega
      obtain ⟨hk8', hfz⟩ := hkk
      subst hfz
      have hkI : (k : Int) < (k8 : Int) := by omega
      have gk : decide ((k : Int) < (k8 : Int)) = true := by simpa using hk8'
      have gk2 : decide (k < k8) = true := by simpa using hk8'
      go_upto_region 12 with (first | (go_at_call 77; refine (H8.out _ HIN.out.low.x).mono ?_; rintro e w1 ⟨rfl, rfl⟩))
      have HVL := Lib.hid (show vers.length = k + 1 by rw [HVE.out]; simp)
      obtain ⟨A5, c5, w5, hrun, hz5, hin5⟩ := HIN.out.appV (30 + 7 * (i : Int) - 3 * (k : Int)) (by have := HVL.out; omega)
      rw [HVL.out] at hrun hin5
      have z2 := cell_of hz5 (i := 2) (u := .slice Av (k + 1) cv) rfl
      have y2 := frozen_of hz5 2
      have hzn : ¬ zs = wi.heap.size := by omega
      have HIN5 := Lib.hid hin5
      clear hin5 hz5
      go_upto_region 13 with (first | (at_builtin; refine wpList_append_run (s := .tmp 62) (x := .tmp 69) hrun rfl rfl rfl rfl rfl ?_))
      obtain ⟨w6, hw6⟩ : ∃ w6, w5.setCell ⟨zs, 2, none⟩ (.slice A5 (k + 1 + 1) c5) = w6 := ⟨_, rfl⟩
      rw [hw6] at HIN5 ⊢
      clear hrun hw6 z2 y2 hzn s0 s1 s2 s3 f2 f3 hzl H8 HIN
      have hzl := HIN5.out.lt
      have hzn : ¬ zs = w6.heap.size := by omega
      have s3 := cell_of HIN5.out.s (i := 3) (u := .slice Bt (k + 1) dt) rfl
      have HT13 := Lib.hid (fun W (hW : Ext w6 W) => (show Calls Tryz.prog 87 #[.slice A m c, .int .i64 (15 + 6 * (i : Int) + 7 * (k : Int))] W (fun e w2 => ∃ t A1 n1 c1 A2 n2 c2, e = .returned (.agg #[.slice A1 n1 c1, .slice A2 n2 c2]) ∧ OkT t ∧ GT w6.heap.size t (.agg #[.slice A1 n1 c1, .slice A2 n2 c2]) w2 ∧ Ext w6 w2) from by
        have h9 := HTX.out W (HIN5.out.low.x.trans hW) (15 + 6 * i + 7 * k) (by omega)
        rw [show ((15 + 6 * i + 7 * k : Nat) : Int) = 15 + 6 * (i : Int) + 7 * (k : Int) by omega] at h9
        refine h9.mono ?_
        rintro e w2 ⟨t, v, rfl, hok, hgt, hx⟩
        have hg2 := hgt.low hW.lt
        obtain ⟨A1, n1, c1, A2, n2, c2, rfl, h1, h2, h3, h4⟩ := hgt
        exact ⟨t, A1, n1, c1, A2, n2, c2, rfl, hok, hg2, hW.trans hx⟩))
      have g6 : IntKind.i64.wrap (6 * (i : Int)) = 6 * (i : Int) := IntWalk.i64_in _ (by omega)
      have g15 : IntKind.i64.wrap (15 + 6 * (i : Int)) = 15 + 6 * (i : Int) := IntWalk.i64_in _ (by omega)
      have g7 : IntKind.i64.wrap (7 * (k : Int)) = 7 * (k : Int) := IntWalk.i64_in _ (by omega)
      have g80 : IntKind.i64.wrap (15 + 6 * (i : Int) + 7 * (k : Int)) = 15 + 6 * (i : Int) + 7 * (k : Int) := IntWalk.i64_in _ (by omega)
      go_region_law (first
        | (go_simp; go_at_call 87; refine (HT13.out _ ((Ext.refl _).drew)).mono ?_; rintro e w1 ⟨t9, B1, m1, d1, B2, m2, d2, rfl, hok9, hg9, hx9⟩; obtain ⟨A7, c7, w7, hrun, hz7, hin7⟩ := HIN5.out.appT hx9 hg9 (by have := HTL.out; omega); have c01 := cell_of ((hx9.block _ HIN5.out.lt).trans HIN5.out.s) (i := 3) (u := .slice Bt (k + 1) dt) rfl; have c02 := cell_of ((((Ext.refl w1).alloc (.cells #[.slice B1 m1 d1, .slice B2 m2 d2] 53)).block _ (lt_of_block ((hx9.block _ HIN5.out.lt).trans HIN5.out.s))).trans ((hx9.block _ HIN5.out.lt).trans HIN5.out.s)) (i := 3) (u := .slice Bt (k + 1) dt) rfl; have z3 := cell_of hz7 (i := 3) (u := .slice Bt (k + 1) dt) rfl; have y3 := frozen_of hz7 3; rw [HTL.out] at hrun hin7; have HIN7 := Lib.hid hin7; have HRUN := Lib.hid hrun; have HOK9 := Lib.hid hok9; clear hok9 hg9 hx9 hrun hin7 hz7; simp only [])
        | (refine gstep_append_run (s := .tmp 73) (x := .tmp 82) HRUN.out rfl rfl rfl rfl rfl ?_))
      all_goals
        go_wp2
        refine ⟨⟨k + 1, A5, A7, c5, c7, vers ++ [30 + 7 * (i : Int) - 3 * (k : Int)], texts ++ [t9], by omega, rfl, fun _ => rfl, ?_, ?_, fun t ht => ?_, HIN7.out⟩, by simp only [toM]; omega⟩
        · rw [HVE.out, List.range_succ, List.map_append]; rfl
        · rw [List.length_append, HTL.out]; rfl
        · rcases List.mem_append.1 ht with ht | ht
          · exact HTO.out t ht
          · simp only [List.mem_singleton] at ht; subst ht; exact HOK9.out
end Go.Proofs.YtdbnddmncbjobaaGreatDoor

/- The law's words and place: walked. -/
namespace Go.Proofs.YtdbnddmncbjobaaGreatDoor
open Go Go.RowKit

end Go.Proofs.YtdbnddmncbjobaaGreatDoor

/- cite.Of with one shape of answer; what Freeze leaves. -/
namespace Go.Proofs.YtdbnddmncbjobaaGreatDoor
open Go Go.RowKit

theorem OkB.big {b : Bk} {N V N' V' : Nat} (h : OkB b N V) (hN : N ≤ N') (hV : V ≤ V') : OkB b N' V' :=
  ⟨h.m0, h.m1, h.h0, h.h1, Nat.le_trans h.n hN, fun x hx => ⟨(h.vs x hx).1, (h.vs x hx).2.1, Nat.le_trans (h.vs x hx).2.2 hV⟩, h.tx, h.ent⟩
end Go.Proofs.YtdbnddmncbjobaaGreatDoor

/- What CiteLeads asks: plain. -/
namespace Go.Proofs.YtdbnddmncbjobaaGreatDoor
open Go Go.RowKit

theorem pagesT_all (R : List Ln → List Ln → Prop) (ent ver : Int) (first : Bool) : ∀ (ps : List (List Ln × List Ln)) (n s : Int), (∀ q ∈ ps, R q.1 q.2) → ∀ p ∈ (pagesT ent ver first ps n s).1, R p.body p.nts := by
  intro ps
  induction ps with
  | nil => intro n s _ p hp; simp [pagesT] at hp
  | cons a ps ih =>
    intro n s h p hp
    simp only [pagesT] at hp
    rcases List.mem_cons.1 hp with rfl | hp
    · exact h a (by simp)
    · exact ih _ _ (fun q hq => h q (by simp [hq])) p hp
theorem pagesV_all (R : List Ln → List Ln → Prop) (m h ent : Int) : ∀ (vs : List Int) (ts : List Tx) (f : Bool) (n s : Int), (∀ t ∈ ts, ∀ q ∈ (textP t m h).2, R q.1 q.2) → ∀ p ∈ (pagesV m h ent vs ts f n s).1, R p.body p.nts := by
  intro vs
  induction vs with
  | nil => intro ts f n s _ p hp; simp [pagesV] at hp
  | cons v vs ih =>
    intro ts f n s hk p hp
    cases ts with
    | nil => simp [pagesV] at hp
    | cons t ts =>
      simp only [pagesV] at hp
      rcases List.mem_append.1 hp with hp | hp
      · exact pagesT_all R _ _ _ _ _ _ (hk t (by simp)) p hp
      · exact ih ts _ _ _ (fun t ht => hk t (by simp [ht])) p hp
theorem pagesS_all (R : List Ln → List Ln → Prop) (m h : Int) : ∀ (l : List Se) (n : Int), (∀ x ∈ l, ∀ t ∈ x.texts, ∀ q ∈ (textP t m h).2, R q.1 q.2) → ∀ p ∈ pagesS m h l n, R p.body p.nts := by
  intro l
  induction l with
  | nil => intro n _ p hp; simp [pagesS] at hp
  | cons x l ih =>
    intro n hk p hp
    simp only [pagesS] at hp
    rcases List.mem_append.1 hp with hp | hp
    · exact pagesV_all R _ _ _ _ _ _ _ _ (hk x (by simp)) p hp
    · exact ih _ (fun y hy => hk y (by simp [hy])) p hp
theorem OkB.hgt {b : Bk} {N V : Nat} (h : OkB b N V) : ∀ p ∈ pagesB b, (p.body ++ p.nts).length ≤ 100 := by
  intro p hp
  have := pagesS_all (fun x y => x.length + y.length ≤ 100) b.ms b.ht b.secs 0 (fun x hx t ht q hq => by
    have h9 := (textP_ok (h.tx x hx t ht) h.m0 h.m1 h.h0 h.h1).2.2.2 q hq
    have := h.h1
    show q.1.length + q.2.length ≤ 100
    omega) p hp
  rw [List.length_append]
  exact this
end Go.Proofs.YtdbnddmncbjobaaGreatDoor

/- What is added, corrected, struck and frozen, in plain Lean: the books of CiteKeeps. -/
namespace Go.Proofs.YtdbnddmncbjobaaGreatDoor

def addP (b : Bk) (e v : Int) (t : Tx) : Bk := { b with secs := b.secs ++ [⟨e, false, [v], [t]⟩] }
theorem OkB.add {b : Bk} {N V : Nat} (h : OkB b N V) (hV : 1 ≤ V) {e : Int} (v : Int) {t : Tx} (ht : OkT t) (hn : ∀ y ∈ b.secs, y.ent ≠ e) : OkB (addP b e v t) (N + 1) V := by
  refine ⟨h.m0, h.m1, h.h0, h.h1, by have := h.n; simp [addP]; omega, fun x hx => ?_, fun x hx => ?_, ?_⟩
  · simp only [addP, List.mem_append, List.mem_singleton] at hx
    rcases hx with hx | rfl
    · exact h.vs x hx
    · exact ⟨rfl, by simp, hV⟩
  · simp only [addP, List.mem_append, List.mem_singleton] at hx
    rcases hx with hx | rfl
    · exact h.tx x hx
    · intro u hu
      simp only [List.mem_singleton] at hu
      subst hu; exact ht
  · simp only [addP, List.map_append, List.map_cons, List.map_nil]
    rw [List.nodup_append]
    refine ⟨h.ent, by simp, fun a ha b' hb => ?_⟩
    obtain ⟨y, hy, rfl⟩ := List.mem_map.1 ha
    simp only [List.mem_singleton] at hb
    subst hb
    exact hn y hy
/-- The books that operations on a frozen one make. -/
structure KpS (b0 : Bk) (e v : Int) (i : Nat) (b : Bk) : Prop where
  ok : OkB b (4 + i) (3 + i)
  kp : Keeps b0 b e v
  fz : frzIn b e = true
  fa : ∀ x ∈ b.secs, x.ent = e → x.fz = true
theorem KpS.succ {b0 b : Bk} {e v : Int} {i : Nat} (h : KpS b0 e v i b) : KpS b0 e v (i + 1) b := ⟨h.ok.big (by omega) (by omega), h.kp, h.fz, h.fa⟩
theorem OkT.pgs {b : Bk} {N V : Nat} (h : OkB b N V) {t : Tx} (ht : OkT t) : (textP t b.ms b.ht).2 ≠ [] ∧ (textP t b.ms b.ht).2.length ≤ 200 := by
  have := textP_ok ht h.m0 h.m1 h.h0 h.h1
  exact ⟨this.2.1, this.2.2.1⟩
theorem KpS.add {b0 b : Bk} {e v : Int} {i : Nat} (h : KpS b0 e v i b) {e' : Int} (v' : Int) {t : Tx} (ht : OkT t) (hn : ∀ y ∈ b.secs, y.ent ≠ e') : KpS b0 e v (i + 1) (addP b e' v' t) := by
  have h1 := (h.ok.big (N' := 4 + i) (V' := 3 + (i + 1)) (by omega) (by omega)).add (by omega) v' ht hn
  refine ⟨by rw [show 4 + (i + 1) = 4 + i + 1 by omega]; exact h1, h.kp.trans (keeps_add h.ok.okK e v ⟨e', false, [v'], [t]⟩ ⟨200, fun u hu => ?_⟩ ⟨by simp, rfl⟩ hn), ?_, fun x hx he => ?_⟩
  · simp only [List.mem_singleton] at hu
    subst hu
    exact OkT.pgs h.ok ht
  · have := h.fz
    unfold frzIn at this ⊢
    simp only [addP, List.any_append, this, Bool.true_or]
  · simp only [addP, List.mem_append, List.mem_singleton] at hx
    rcases hx with hx | rfl
    · exact h.fa x hx he
    · exfalso
      have h2 := h.fz
      unfold frzIn at h2
      rw [List.any_eq_true] at h2
      obtain ⟨y, hy, h3⟩ := h2
      simp only [Bool.and_eq_true, beq_iff_eq] at h3
      exact hn y hy (h3.1.trans he.symm)
theorem KpS.start {b : Bk} (h : OkB b 4 3) (hf : ∀ x ∈ b.secs, x.fz = true) {br e v wd : Int} {y : Int × Int × Nat} (ho : ofP b br e v wd = some y) : KpS b e v 0 b := by
  refine ⟨h, Keeps.refl h.okK e v, ?_, fun x hx _ => hf x hx⟩
  unfold ofP at ho
  split at ho
  · cases ho
  · next hc => simp only [not_or] at hc; simpa using hc.2.2
/-- What was cited is cited so, and leads where it led. -/
theorem KpS.of {b0 b : Bk} {e v : Int} {i : Nat} (h : KpS b0 e v i b) {wd n s : Int} {k : Nat} (ho : ofP b0 0 e v wd = some (n, s, k)) : ofP b 0 e v wd = some (n, s, k) := by
  have h1 : whereP b0 e v wd = some (n, s, k) := by
    unfold ofP at ho
    split at ho
    · cases ho
    · exact ho
  unfold ofP
  rw [if_neg (by rw [h.fz]; simp)]
  exact h.kp.place wd _ h1
theorem KpS.find {b0 b : Bk} {e v : Int} {i : Nat} (h : KpS b0 e v i b) {n s line : Int} {p : Pg} {x : Ln} (hc : citP b0 n s line = some (p, x)) : citP b n s line = some (p, x) := by
  unfold citP at hc ⊢
  cases hp : pageP b0 n s with
  | none => rw [hp] at hc; cases hc
  | some q =>
    rw [hp] at hc
    rw [h.kp.page n s q hp]
    exact hc
end Go.Proofs.YtdbnddmncbjobaaGreatDoor
