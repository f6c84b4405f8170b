/- book.all$1: walked (under way). -/
import Derived.Test.YtdbnddmncbjobaaGreatDoorQaw
namespace Go.Proofs.YtdbnddmncbjobaaGreatDoor
open Go Go.RowKit

set_option maxHeartbeats 8000000 in
set_option maxRecDepth 100000 in
theorem all1_seq (n : Nat) (w : World) (b : Bk) (bb : Nat) (A : Option Addr) (N c : Nat) (Q0 : Nat → Prop) (hb : BkI b) (hQl : ∀ j, Q0 j → j < w.heap.size) (h4 : Q0 4) (hbb : Q0 bb) (hB : w.heap[bb]? = some (.cells #[.int .i64 b.ms, .int .i64 b.ht, .slice A N c] 27 (0, 0))) (hr : kSe.row w Q0 A N b.secs) (hL : EnvW w) :
    RSeq Fence.wide n Tryz.prog 126 #[.pointer (some ⟨bb, 0, none⟩)] pgEnc pgRp (fun xs => xs.map (·.1) = pagesB b) (fun pre => pre.map (·.1) <+: pagesB b) Q0 w := by
  intro l J Jx W hws hwk hx hJ hJx hY hj0
  refine callsIn_wide.2 ?_
  have hN := Lay.row_len hr
  have hNb : N ≤ 1000000 := by have := hb.s.n; omega
  obtain ⟨B, hBs⟩ : ∃ B, W.heap.size = B := ⟨_, rfl⟩
  rw [hBs] at hJ hJx hY
  have HJ := Lib.hid hJ
  have HJX := Lib.hid hJx
  have HY := Lib.hid hY
  have HBI := Lib.hid hb
  have HQL := Lib.hid hQl
  have HBS := Lib.hid hBs
  have HN := Lib.hid hN
  have HI0 := Lib.hid (fun (w3 : World) (hx3 : Ext W w3) (hB3 : w3.heap[B]? = some (.cells #[.int .i64 0, .int .i64 0] 64 (0, 0))) => show ItC J Q0 B bb b A N c 0 0 [] (Qn Q0 W w3) w3 from
    ⟨hJ _ _ _ _ _ hj0 (Mv.of_ext hx3) (fun j hj => by rcases hj with hj | hj; exact .inl hj; exact .inr (.inl hj.1)), fun j hj => .inl hj, .inr ⟨by omega, lt_of_block hB3⟩,
      fun j hj => by rcases hj with hj | hj; exact Nat.lt_of_lt_of_le (hQl j hj) (Nat.le_trans hws hx3.lt); exact hj.2,
      ((hx.trans hx3).block _ (lt_of_block hB)).trans hB, hB3, Lay.row_ext hr (hx.trans hx3), hL.ext (hx.trans hx3)⟩)
  have hbq : bb < W.heap.size := Nat.lt_of_lt_of_le (lt_of_block hB) hws
  have b2 := cell_of ((hx.block _ (lt_of_block hB)).trans hB) (i := 2) rfl
  clear hJ hJx hY hb hr hL hx hwk hj0 hN hB
  show Calls Tryz.prog 126 #[.func (.yield l) #[] #[], .pointer (some ⟨bb, 0, none⟩)] W _
  go_enter Tryz.func126, Tryz.ntmps126
  go_upto_region 1 with (fail)
  obtain ⟨w3, hw3⟩ : ∃ w3, W.alloc (.cells #[.int .i64 0, .int .i64 0] 64) = w3 := ⟨_, rfl⟩
  rw [hw3]
  have HIC := Lib.hid (HI0.out w3 (by rw [← hw3]; exact (Ext.refl W).alloc _) (by rw [← hw3, ← hBs]; exact heap_alloc_new W _))
  have b2' := cell_of HIC.out.hb (i := 2) rfl
  clear hw3 b2 HI0
  go_wp2_with fail
  go_loopw [5, 6, 7, 8, 9, 11, 16, 24, 40] (fun _ _ _ _ _ _ s16 _ _ w' => ItO J Q0 B bb b A N c s16 w') (fun _ _ _ _ _ _ s16 _ _ _ => toM N s16)
  case atStart => exact ⟨0, 0, 0, [], _, by omega, rfl, HIC.out, ⟨by omega, by simp, by omega, by simp⟩, rfl⟩
  case round =>
    obtain ⟨i, num, suf, pre, Q, hi, rfl, hC, hBd, hS⟩ := hrel
    by_cases hlt : i < N
    case neg =>
      obtain rfl : N = i := by have := HN.out; omega
      have hni : ¬ ((N : Int) < (N : Int)) := by omega
      have HFI := Lib.hid (show ((∃ xs Q, xs.map (·.1) = pagesB b ∧ J xs Q wr) ∨ (∃ pre Q, pre.map (·.1) <+: pagesB b ∧ Jx pre Q wr)) by
        refine .inl ⟨pre, Q, ?_, hC.j⟩
        rw [List.drop_of_length_le (by have := HN.out; omega)] at hS
        simpa [pagesS] using hS)
      clear hS hC
      go_wp2_with fail
      go_end0
      rcases HFI.out with ⟨xs, q, h1, h2⟩ | ⟨xs, q, h1, h2⟩
      · exact ⟨⟨_, rfl⟩, .inl ⟨xs, h1, q, h2⟩⟩
      · exact ⟨⟨_, rfl⟩, .inr ⟨xs, h1, q, h2⟩⟩
    have hI : (i : Int) < (N : Int) := by omega
    obtain ⟨x, hxi⟩ : ∃ x, b.secs[i]? = some x := ⟨_, List.getElem?_eq_getElem (by have := HN.out; omega)⟩
    obtain ⟨bs, os, cs, rfl, hbs, hqs, hrep, hcs⟩ := Lay.row_at hC.row hxi
    obtain ⟨A1, n1, c1, A2, n2, c2, rfl, hn1, hn2, hr1, hr2⟩ := kSe_rep.1 hrep
    have e0 := hcs 0 _ rfl
    have e1 := hcs 1 _ rfl
    have e2 := hcs 2 _ rfl
    have e3 := hcs 3 _ rfl
    rw [kSe_sz] at e0 e1 e2 e3
    rw [Nat.add_zero] at e0
    have HC := Lib.hid hC
    have HS := Lib.hid hS
    have HXI := Lib.hid hxi
    have HR1 := Lib.hid hr1
    have HR2 := Lib.hid hr2
    clear hC hS hxi hr1 hr2 hcs hrep
    go_upto_region 4 with (fail)
    obtain ⟨b5, hb5⟩ : ∃ b5, wr.heap.size = b5 := ⟨_, rfl⟩
    obtain ⟨w4, hw4⟩ : ∃ w4, (wr.alloc (.cells #[.int .i64 x.ent, .bool x.fz, .slice A1 n1 c1, .slice A2 n2 c2] 46)).setCell ⟨B, 1, none⟩ (.int .i64 0) = w4 := ⟨_, rfl⟩
    have hBw : B < wr.heap.size := lt_of_block HC.out.hB
    have HB5 := Lib.hid (show w4.heap[b5]? = some (.cells #[.int .i64 x.ent, .bool x.fz, .slice A1 n1 c1, .slice A2 n2 c2] 46 (0, 0)) by
      rw [← hw4, ← hb5, heap_setCell_other _ ⟨B, 1, none⟩ _ _ (by show wr.heap.size ≠ B; omega)]
      exact heap_alloc_new wr _)
    have hxa : Ext wr (wr.alloc (.cells #[.int .i64 x.ent, .bool x.fz, .slice A1 n1 c1, .slice A2 n2 c2] 46)) := (Ext.refl wr).alloc _
    have hCa := HC.out.ext HJ.out hxa
    have HC4 := Lib.hid (show ItC J Q0 B bb b (some ⟨bs, os, none⟩) N c num 0 pre (Qn Q wr (wr.alloc (.cells #[.int .i64 x.ent, .bool x.fz, .slice A1 n1 c1, .slice A2 n2 c2] 46))) w4 from by
      rw [← hw4]
      refine hCa.set HJ.out (Mv.set _) (by simp) ?_ (by omega) (by have := HQL.out 4 h4; omega) (fun j hj => by have := HQL.out j hj; omega)
      rw [heap_setCell_same _ B 1 _ 64 _ hCa.hB]
      rfl)
    have HQ5 := Lib.hid (show Qn Q wr (wr.alloc (.cells #[.int .i64 x.ent, .bool x.fz, .slice A1 n1 c1, .slice A2 n2 c2] 46)) b5 from .inr ⟨by omega, by rw [World.size_alloc]; omega⟩)
    have y1 := cell_of hCa.hB (i := 1) rfl
    have y2 := frozen_of hCa.hB 1
    have y3 := cell_of HB5.out (i := 3) rfl
    rw [hb5]
    have HR1' := Lib.hid (Lay.row_keep HR1.out (by rw [← hw4]; simp) (W' := w4) fun j hj hl => by
      rw [← hw4, heap_setCell_other _ ⟨B, 1, none⟩ _ _ (by show j ≠ B; have := HQL.out j hj; omega)]
      exact hxa.block j hl)
    have HR2' := Lib.hid (Lay.row_keep HR2.out (by rw [← hw4]; simp) (W' := w4) fun j hj hl => by
      rw [← hw4, heap_setCell_other _ ⟨B, 1, none⟩ _ _ (by show j ≠ B; have := HQL.out j hj; omega)]
      exact hxa.block j hl)
    have HS4 := Lib.hid (show pre.map (·.1) ++ ((pagesV b.ms b.ht x.ent (x.vers.drop 0) (x.texts.drop 0) (decide ((0 : Nat) = 0)) num 0).1 ++ pagesS b.ms b.ht (b.secs.drop (i + 1)) (pagesV b.ms b.ht x.ent (x.vers.drop 0) (x.texts.drop 0) (decide ((0 : Nat) = 0)) num 0).2) = pagesB b by
      have h9 := HS.out
      rw [List.drop_eq_getElem_cons (by have := HN.out; omega), (List.getElem?_eq_some_iff.1 HXI.out).2, pagesS] at h9
      simpa using h9)
    have HL2 := Lib.hid (Lay.row_len HR2.out)
    have hn2b : n2 ≤ 1000000 := by have := HBI.out.s.nt x (List.mem_of_getElem? HXI.out); have := HL2.out; omega
    clear hxa hCa HR1 HR2 HS HC
    go_wp2_with fail
    go_loopw [6, 7, 8, 9, 11, 24, 40] (fun _ _ _ _ _ s24 _ w' => ItM J Q0 B bb b (some ⟨bs, os, none⟩) N c b5 x A1 n1 c1 A2 n2 c2 (b.secs.drop (i + 1)) s24 w') (fun _ _ _ _ _ s24 _ _ => toM n2 s24)
    case atStart => exact ⟨0, num, 0, pre, _, by omega, rfl, HC4.out, ⟨hBd.1, hBd.2.1, by omega, by omega⟩, HQ5.out, HB5.out, HR1'.out, HR2'.out, HS4.out⟩
    case round =>
      clear HC4 HB5 HQ5 HS4 HR1' HR2' hBw
      rename World => wm
      obtain ⟨k, num2, suf2, pre2, Q2, hk, rfl, hC, hBd2, hq5, hB5, hR1, hR2, hS⟩ := hrel
      by_cases hkt : k < n2
      case neg =>
        obtain rfl : n2 = k := by have := HL2.out; omega
        have hnk : ¬ ((n2 : Int) < (n2 : Int)) := by omega
        have HRL := Lib.hid (show ItO J Q0 B bb b (some ⟨bs, os, none⟩) N c (.int .i64 ((i : Int) + 1)) wm by
          refine ⟨i + 1, num2, suf2, pre2, Q2, by have := HN.out; omega, by simp, hC, hBd2, ?_⟩
          rw [List.drop_of_length_le (l := x.texts) (by have := HL2.out; omega), pagesV_nil] at hS
          simpa using hS)
        clear hC hS hR1 hR2 hB5
        go_wp2_with fail
        go_roundw
        case rel => exact HRL.out
        case measure => simp only [toM]; omega
      have hK : (k : Int) < (n2 : Int) := by omega
      obtain ⟨t, hti⟩ : ∃ t, x.texts[k]? = some t := ⟨_, List.getElem?_eq_getElem (by have := HL2.out; omega)⟩
      obtain ⟨bt, ot, ct, rfl, hbt, hqt, hrt, hct⟩ := Lay.row_at hR2 hti
      obtain ⟨A3, n3, c3, A4, n4, c4, rfl, hn3, hn4, hr3, hr4⟩ := kTx_rep.1 hrt
      have g0 := hct 0 _ rfl
      have g1 := hct 1 _ rfl
      rw [kTx_sz] at g0 g1
      rw [Nat.add_zero] at g0
      obtain ⟨b7, hb7⟩ : ∃ b7, wm.heap.size = b7 := ⟨_, rfl⟩
      obtain ⟨w5, hw5⟩ : ∃ w5, wm.alloc (.cells #[.slice A3 n3 c3, .slice A4 n4 c4] 53) = w5 := ⟨_, rfl⟩
      have hx5 : Ext wm w5 := by rw [← hw5]; exact (Ext.refl wm).alloc _
      have HX5 := Lib.hid hx5
      have HPT := Lib.hid (ptext_any Q0 w5 t b.ms b.ht A3 A4 n3 n4 c3 c4 (Lay.row_ext hr3 hx5) (Lay.row_ext hr4 hx5) (HBI.out.tx x (List.mem_of_getElem? HXI.out) t (List.mem_of_getElem? hti)) HBI.out.m0 HBI.out.m1 (hC.env.ext hx5))
      have hB7 : w5.heap[b7]? = some (.cells #[.slice A3 n3 c3, .slice A4 n4 c4] 53 (0, 0)) := by
        rw [← hw5, ← hb7]
        exact heap_alloc_new wm _
      have z0 := cell_of hB7 (i := 0) rfl
      have z1 := cell_of hB7 (i := 1) rfl
      have z2 := cell_of ((hx5.block _ (lt_of_block hC.hb)).trans hC.hb) (i := 0) rfl
      have z3 := cell_of ((hx5.block _ (lt_of_block hC.hb)).trans hC.hb) (i := 1) rfl
      have HC := Lib.hid hC
      have HS := Lib.hid hS
      have HR1 := Lib.hid hR1
      have HR2 := Lib.hid hR2
      have HTI := Lib.hid hti
      have HB5 := Lib.hid hB5
      clear hC hS hR1 hR2 hti hr3 hr4 hrt hct hB5 hx5 hB7
      obtain ⟨pgs, hpg⟩ : ∃ pgs, (textP t b.ms b.ht).2 = pgs := ⟨_, rfl⟩
      rw [hpg] at HPT
      have hpb : pgs.length ≤ 200 := by rw [← hpg]; exact (HBI.out.tx x (List.mem_of_getElem? HXI.out) t (List.mem_of_getElem? HTI.out)).len
      have HLB := Lib.hid (show ∀ p ∈ pgs, p.1.length ≤ 1000 ∧ p.2.length ≤ 1000 from fun p hp => HBI.out.ln x (List.mem_of_getElem? HXI.out) t (List.mem_of_getElem? HTI.out) p (by rw [hpg]; exact hp))
      go_upto_region 8 with (fail)
      clear hw5 hb7
      go_wp2_with (first | (go_at_call 127; refine (HPT.out).mono ?_; rintro e w6 ⟨A6, c6, rfl, ho6, hx6⟩))
      obtain ⟨v, hvi⟩ : ∃ v, x.vers[k]? = some v := ⟨_, List.getElem?_eq_getElem (by have := HBI.out.vs x (List.mem_of_getElem? HXI.out); have := HL2.out; omega)⟩
      have hxm6 : Ext wm w6 := HX5.out.trans hx6
      have HI6 := Lib.hid (show ItI J Q0 B bb b (some ⟨bs, os, none⟩) N c b5 x A1 n1 c1 (some ⟨bt, ot, none⟩) n2 c2 (b.secs.drop (i + 1)) k v pgs A6 w.heap.size (.int .i64 ((0 : Nat) : Int)) w6 by
        refine ⟨0, num2, suf2, pre2, Qn Q2 wm w6, by omega, rfl, HC.out.ext HJ.out hxm6, hBd2, .inl hq5, (hxm6.block _ (lt_of_block HB5.out)).trans HB5.out, Lay.row_ext HR1.out hxm6, Lay.row_ext HR2.out hxm6, ?_, ?_⟩
        · obtain ⟨A9, c9, e9, _, hr9⟩ := own_rowN (Q := fun j => (Qn Q2 wm w6 j ∧ j ≠ b5 ∧ j ≠ B) ∧ w.heap.size ≤ j) ho6 (fun j hj hl => by
            have h1 := HX5.out.lt; have h2 := lt_of_block HB5.out; have h3 := lt_of_block HC.out.hB
            exact ⟨⟨.inr ⟨by omega, hl⟩, by omega, by omega⟩, by omega⟩) (fun j hj hl => by
            have h1 := HX5.out.lt; have h2 := lt_of_block HB5.out; have h3 := lt_of_block HC.out.hB
            exact ⟨⟨.inr ⟨by omega, hl⟩, by omega, by omega⟩, by omega⟩)
          obtain ⟨e1, _, _⟩ := Value.slice.inj e9
          rw [e1]
          rw [List.length_map] at hr9
          exact hr9
        · have h9 := HS.out
          rw [List.drop_eq_getElem_cons (l := x.texts) (by have := HL2.out; omega), (List.getElem?_eq_some_iff.1 HTI.out).2, List.drop_eq_getElem_cons (l := x.vers) (List.getElem?_eq_some_iff.1 hvi).1, (List.getElem?_eq_some_iff.1 hvi).2] at h9
          simp only [pagesV, hpg] at h9
          rw [← h9]
          simp)
      clear ho6 hx6 hxm6 HC HS HR1 HR2 HB5 HPT hq5 hpg
      go_loopw [11, 40] (fun _ s40 w' => ItI J Q0 B bb b (some ⟨bs, os, none⟩) N c b5 x A1 n1 c1 (some ⟨bt, ot, none⟩) n2 c2 (b.secs.drop (i + 1)) k v pgs A6 w.heap.size s40 w') (fun _ s40 _ => toM pgs.length s40)
      case atStart => exact HI6.out
      case round =>
        clear HI6
        rename World => wi
        obtain ⟨p, num3, suf3, pre3, Q3, hp, rfl, hC, hBd3, hq5, hB5, hR1, hR2, hRP, hS⟩ := hrel
        by_cases hpl : p < pgs.length
        case neg =>
          obtain hpe : p = pgs.length := by omega
          have hnp : ¬ ((p : Int) < (pgs.length : Int)) := by omega
          have HRL := Lib.hid (show ItM J Q0 B bb b (some ⟨bs, os, none⟩) N c b5 x A1 n1 c1 (some ⟨bt, ot, none⟩) n2 c2 (b.secs.drop (i + 1)) (.int .i64 ((k : Int) + 1)) wi by
            refine ⟨k + 1, num3, suf3, pre3, Q3, by have := HL2.out; omega, by simp, hC, hBd3, hq5, hB5, hR1, hR2, ?_⟩
            rw [List.drop_of_length_le (l := pgs) (by omega)] at hS
            simpa [pagesT] using hS)
          clear hC hS hR1 hR2 hB5 hRP hpe
          go_wp2_with fail
          go_roundw
          case rel => exact HRL.out
          case measure => simp only [toM]; omega
        have hP : (p : Int) < (pgs.length : Int) := by omega
        obtain ⟨pg, hpi⟩ : ∃ pg, pgs[p]? = some pg := ⟨_, List.getElem?_eq_getElem hpl⟩
        obtain ⟨bp, op, cp, rfl, hbp, hqp, hrp, hcp⟩ := Lay.row_at hRP (i := p) (x := pgOf pg) (by rw [List.getElem?_map, hpi]; rfl)
        obtain ⟨A7, n7, c7, A8, n8, c8, rfl, hn7, hn8, hr7, hr8⟩ := kPg_rep.1 hrp
        have q0 := hcp 0 _ rfl
        have q1 := hcp 1 _ rfl
        have q2 := hcp 2 _ rfl
        have q3 := hcp 3 _ rfl
        have q4 := hcp 4 _ rfl
        have q5 := hcp 5 _ rfl
        rw [kPg_sz] at q0 q1 q2 q3 q4 q5
        rw [Nat.add_zero] at q0
        obtain ⟨b9, hb9⟩ : ∃ b9, wi.heap.size = b9 := ⟨_, rfl⟩
        obtain ⟨w7, hw7⟩ : ∃ w7, wi.alloc (.cells #[.int .i64 (pgOf pg).num, .int .i64 (pgOf pg).suf, .int .i64 (pgOf pg).ent, .int .i64 (pgOf pg).ver, .slice A7 n7 c7, .slice A8 n8 c8] 84) = w7 := ⟨_, rfl⟩
        have hx7 : Ext wi w7 := by rw [← hw7]; exact (Ext.refl wi).alloc _
        have hB9 : w7.heap[b9]? = some (.cells #[.int .i64 (pgOf pg).num, .int .i64 (pgOf pg).suf, .int .i64 (pgOf pg).ent, .int .i64 (pgOf pg).ver, .slice A7 n7 c7, .slice A8 n8 c8] 84 (0, 0)) := by
          rw [← hw7, ← hb9]
          exact heap_alloc_new wi _
        have hBi : B < wi.heap.size := lt_of_block hC.hB
        have hpre : pre3.length + 1 ≤ 1000000 := by
          have h9 := congrArg List.length hS
          rw [List.drop_eq_getElem_cons hpl, pagesT] at h9
          simp only [List.length_append, List.length_map, List.length_cons] at h9
          have := HBI.out.np
          omega
        obtain ⟨hd0, hd1, hd2, hd3⟩ := hBd3
        have HC := Lib.hid hC
        have HS := Lib.hid hS
        have HR1 := Lib.hid hR1
        have HR2 := Lib.hid hR2
        have HB5 := Lib.hid hB5
        have HRP := Lib.hid hRP
        have HR7 := Lib.hid hr7
        have HR8 := Lib.hid hr8
        have HPI := Lib.hid hpi
        have HC7 := Lib.hid (hC.ext HJ.out hx7)
        have HX7 := Lib.hid hx7
        have HB9 := Lib.hid hB9
        have y1 := cell_of HC7.out.hB (i := 0) rfl
        have y2 := frozen_of HC7.out.hB 0
        have y3 := cell_of HC7.out.hB (i := 1) rfl
        have y4 := frozen_of HC7.out.hB 1
        clear hC hS hR1 hR2 hB5 hRP hr7 hr8 hpi hcp hrp hx7 hB9
        have HS7 := Lib.hid (show w7.heap.size = wi.heap.size + 1 by rw [← hw7]; simp)
        go_upto_region 12 with (fail)
        clear hw7
        obtain ⟨bv, ov, cv, rfl, hbv, hqv, hrv, hcv⟩ := Lay.row_at (Lay.row_ext HR1.out HX7.out) hvi
        have hn1k : k < n1 := by have := Lay.row_len HR1.out; have := (List.getElem?_eq_some_iff.1 hvi).1; omega
        have hK1 : (k : Int) < (n1 : Int) := by omega
        obtain rfl : cv = [.int .i64 v] := hrv
        have v0 := hcv 0 _ rfl
        rw [show kInt.sz = 1 from rfl, Nat.mul_one, Nat.add_zero] at v0
        have HB57 := Lib.hid ((HX7.out.block _ (lt_of_block HB5.out)).trans HB5.out)
        have hqlv := HQL.out bv hqv
        have hbB : bv ≠ B := by omega
        have h5B : b5 ≠ B := by
          intro e
          have h9 := HB5.out
          rw [e, HC.out.hB] at h9
          simp at h9
        have h9B : b9 ≠ B := by omega
        clear hcv
        by_cases hk0 : k = 0
        · have hkb : ((k : Int) == 0) = true := by simp [hk0]
          have HK0 := Lib.hid hk0
          clear hk0
          go_upto_region 15 with (fail)
          obtain ⟨w8, hw8⟩ : ∃ w8, w7.setCell ⟨B, 0, none⟩ (.int .i64 (num3 + 1)) = w8 := ⟨_, rfl⟩
          have HC8 := Lib.hid (show ItC J Q0 B bb b (some ⟨bs, os, none⟩) N c (num3 + 1) suf3 pre3 (Qn Q3 wi w7) w8 from by
            rw [← hw8]
            refine HC7.out.set HJ.out (Mv.set _) (by simp) ?_ (by omega) (by have := HQL.out 4 h4; omega) (fun j hj => by have := HQL.out j hj; omega)
            rw [heap_setCell_same _ B 0 _ 64 _ HC7.out.hB]
            rfl)
          have x0 := cell_of HC8.out.hB (i := 0) rfl
          have x1 := cell_of HC8.out.hB (i := 1) rfl
          have hk8 : ∀ q, q ≠ B → w8.heap[q]? = w7.heap[q]? := fun q hq => by rw [← hw8]; exact heap_setCell_other _ ⟨B, 0, none⟩ q _ hq
          have hB58 := (hk8 b5 h5B).trans HB57.out
          have hB98 := (hk8 b9 h9B).trans HB9.out
          have p0 := cell_of hB58 (i := 0) rfl
          have p2 := cell_of hB58 (i := 2) rfl
          have hv8 : w8.cell? ⟨bv, ov + k, none⟩ = some (.int .i64 v) := by
            rw [← hw8]
            exact (World.cell?_setCell_other _ _ _ _ (by intro e; injection e with e; exact hbB e.symm)).trans v0
          have s0 := cell_of hB98 (i := 0) rfl
          have s1 := cell_of hB98 (i := 1) rfl
          have s2 := cell_of hB98 (i := 2) rfl
          have s3 := cell_of hB98 (i := 3) rfl
          have s4 := cell_of hB98 (i := 4) rfl
          have s5 := cell_of hB98 (i := 5) rfl
          have t0 := frozen_of hB98 0
          have t1 := frozen_of hB98 1
          have t2 := frozen_of hB98 2
          have t3 := frozen_of hB98 3
          have hb59 : ¬ b5 = b9 := by have := lt_of_block HB5.out; omega
          have hbv9 : ¬ bv = b9 := by omega
          have hBn9 : ¬ B = b9 := by omega
          have hb95 : b9 ≠ b5 := fun e => hb59 e.symm
          have hb9v : b9 ≠ bv := fun e => hbv9 e.symm
          rw [hw8]
          have hsz8 : w8.heap.size = w7.heap.size := by rw [← hw8]; simp
          have HB98 := Lib.hid hB98
          have HMV8 := Lib.hid (show Mv B wi w8 by rw [← hw8]; exact (Mv.of_ext HX7.out).trans (Mv.set _))
          clear hw8 hB58 hB98 y1 y2 y3 y4 v0 q0 q1 q2 q3 q4 q5
          go_region_held3 (fun W => W.cell? ⟨B, 0, none⟩ = some (.int .i64 (num3 + 1)) ∧ W.cell? ⟨B, 1, none⟩ = some (.int .i64 suf3) ∧ W.cell? ⟨b5, 0, none⟩ = some (.int .i64 x.ent) ∧ W.cell? ⟨b5, 2, none⟩ = some (.slice (some ⟨bv, ov, none⟩) n1 c1) ∧ W.cell? ⟨bv, ov + k, none⟩ = some (.int .i64 v)) (go_keep) (fail)
          all_goals
            obtain ⟨w9, hw9⟩ : ∃ w9, ((((w8.setCell ⟨b9, 0, none⟩ (.int .i64 (num3 + 1))).setCell ⟨b9, 1, none⟩ (.int .i64 suf3)).setCell ⟨b9, 2, none⟩ (.int .i64 x.ent)).setCell ⟨b9, 3, none⟩ (.int .i64 v)).drew = w9 := ⟨_, rfl⟩
            rw [hw9]
            have hk9 : ∀ q, q ≠ b9 → w9.heap[q]? = w8.heap[q]? := fun q hq => by
              rw [← hw9]
              exact (heap_setCell_other _ ⟨b9, 3, none⟩ q _ hq).trans ((heap_setCell_other _ ⟨b9, 2, none⟩ q _ hq).trans ((heap_setCell_other _ ⟨b9, 1, none⟩ q _ hq).trans (heap_setCell_other _ ⟨b9, 0, none⟩ q _ hq)))
            have hsz9 : w9.heap.size = w7.heap.size := by rw [← hw9]; rw [← hsz8]; simp
            have hmv9 : Mv B wi w9 := by
              rw [← hw9]
              exact ((((HMV8.out.setNew (p := ⟨b9, 0, none⟩) (by show wi.heap.size ≤ b9; omega) _).setNew (p := ⟨b9, 1, none⟩) (by show wi.heap.size ≤ b9; omega) _).setNew (p := ⟨b9, 2, none⟩) (by show wi.heap.size ≤ b9; omega) _).setNew (p := ⟨b9, 3, none⟩) (by show wi.heap.size ≤ b9; omega) _).trans (Mv.of_ext (Ext.refl _).drew)
            have hC9l : wi.heap.size ≤ w9.heap.size := by have := HX7.out.lt; omega
            have HC9 := Lib.hid (show ItC J Q0 B bb b (some ⟨bs, os, none⟩) N c (num3 + 1) suf3 pre3 (Qn Q3 wi w9) w9 from
              HC.out.mv HJ.out hmv9 (by have := HX7.out.lt; omega) ((hk9 B (by omega)).trans HC8.out.hB) (by omega) (by have := HQL.out 4 h4; omega) (fun j hj => by have := HQL.out j hj; omega))
            have HB99 := Lib.hid (show w9.heap[b9]? = some (.cells #[.int .i64 (num3 + 1), .int .i64 suf3, .int .i64 x.ent, .int .i64 v, .slice A7 n7 c7, .slice A8 n8 c8] 84 (0, 0)) by
              rw [← hw9]
              exact heap_setCell_same _ b9 3 _ 84 _ (heap_setCell_same _ b9 2 _ 84 _ (heap_setCell_same _ b9 1 _ 84 _ (heap_setCell_same _ b9 0 _ 84 _ HB98.out))))
            have HRp := Lib.hid (show pgRp (fun j => (Qn Q3 wi w9 j ∧ j ≠ B) ∧ w.heap.size ≤ j) (⟨(num3 + 1), suf3, x.ent, v, pg.1, pg.2⟩, (A7, n7, c7), (A8, n8, c8)) w9 from
              ⟨hn7, hn8, Lay.row_mono (Lay.row_keep HR7.out hC9l fun j hj hl => hmv9.keep j hj.1.2.2 hl) fun j hj _ => ⟨⟨.inl hj.1.1, hj.1.2.2⟩, hj.2⟩, Lay.row_mono (Lay.row_keep HR8.out hC9l fun j hj hl => hmv9.keep j hj.1.2.2 hl) fun j hj _ => ⟨⟨.inl hj.1.1, hj.1.2.2⟩, hj.2⟩, HLB.out pg (List.mem_of_getElem? HPI.out)⟩)
            have hq0B : ∀ j, Q0 j → j ≠ B := fun j hj => by have := HQL.out j hj; omega
            have HNX := Lib.hid (fun (W2 : World) (hJ2 : J (pre3 ++ [(⟨(num3 + 1), suf3, x.ent, v, pg.1, pg.2⟩, (A7, n7, c7), (A8, n8, c8))]) (Qn Q3 wi w9) W2) (hk2 : ∀ j, Qn Q3 wi w9 j → W2.heap[j]? = w9.heap[j]?) =>
              show ItI J Q0 B bb b (some ⟨bs, os, none⟩) N c b5 x (some ⟨bv, ov, none⟩) n1 c1 (some ⟨bt, ot, none⟩) n2 c2 (b.secs.drop (i + 1)) k v pgs (some ⟨bp, op, none⟩) w.heap.size (.int .i64 ((p : Int) + 1)) W2 from
              itI_next HPI.out hbb h4 (by rw [show stN k num3 = (num3 + 1) from (if_pos HK0.out), show stS k suf3 = suf3 from (if_pos HK0.out)]; exact HC9.out) (.inr ⟨by have := HS7.out; omega, by have := HS7.out; omega⟩) ⟨hd0, hd1, hd2, hd3⟩ hq5
                ((hmv9.keep b5 h5B (lt_of_block HB5.out)).trans HB5.out) (Lay.row_keep HR1.out hC9l fun j hj hl => hmv9.keep j (hq0B j hj) hl) (Lay.row_keep HR2.out hC9l fun j hj hl => hmv9.keep j (hq0B j hj) hl)
                (Lay.row_keep HRP.out hC9l fun j hj hl => hmv9.keep j hj.1.2.2 hl) HS.out (by rw [show stN k num3 = (num3 + 1) from (if_pos HK0.out), show stS k suf3 = suf3 from (if_pos HK0.out)]) hJ2 hk2)
            have HST := Lib.hid (show (pre3 ++ [((⟨(num3 + 1), suf3, x.ent, v, pg.1, pg.2⟩, (A7, n7, c7), (A8, n8, c8)) : PgV)]).map (·.1) <+: pagesB b from
              itI_stop HPI.out HS.out (by rw [show stN k num3 = (num3 + 1) from (if_pos HK0.out), show stS k suf3 = suf3 from (if_pos HK0.out)]))
            obtain ⟨fn, tm, asg, bod, hy, hRo⟩ := HY.out pre3 (⟨(num3 + 1), suf3, x.ent, v, pg.1, pg.2⟩, (A7, n7, c7), (A8, n8, c8)) (Qn Q3 wi w9) w9 HC9.out.j HRp.out HC9.out.lt (by omega) HST.out
            dsimp only [pgEnc] at hy
            have r0 := cell_of HB99.out (i := 0) rfl
            have r1 := cell_of HB99.out (i := 1) rfl
            have r2 := cell_of HB99.out (i := 2) rfl
            have r3 := cell_of HB99.out (i := 3) rfl
            have r4 := cell_of HB99.out (i := 4) rfl
            have r5 := cell_of HB99.out (i := 5) rfl
            clear hw9 hk9 hmv9 hsz9 hsz8 hk8 p0 p2 hv8 s0 s1 s2 s3 s4 s5 t0 t1 t2 t3 x0 x1
            go_upto_region 16 with (fail)
            refine (wpIn_wide (n := n)).1 ?_
            gi_wp2
            refine ⟨fun h => by simp [Fence.wide] at h, hRo.mono ?_⟩
            rintro e W2 (⟨rfl, hJ2, hk2⟩ | ⟨rfl, hJx2⟩)
            · have HN2 := Lib.hid (HNX.out W2 hJ2 hk2)
              clear hJ2 hk2 HX5 HC9 HB99 HRp
              dsimp only
              gi_wp2
              go_wp2_with fail
              go_roundw
              case rel => exact HN2.out
              case measure => simp only [toM]; omega
            · have HX2 := Lib.hid (show (∃ pre Q, pre.map (·.1) <+: pagesB b ∧ Jx pre Q W2) from ⟨_, _, HST.out, hJx2⟩)
              clear hJx2 HX5 HC9 HB99 HRp
              dsimp only
              gi_wp2
              go_wp2_with fail
              refine bodyPost_ret (results_none rfl _ _ _) rfl ?_
              exact ⟨⟨_, rfl⟩, .inr (by obtain ⟨q1, q2, h1, h2⟩ := HX2.out; exact ⟨q1, q2, h1, h2⟩)⟩
        · have hkb : ((k : Int) == 0) = false := by simp; omega
          have HK0 := Lib.hid hk0
          clear hk0
          go_upto_region 15 with (fail)
          obtain ⟨w8, hw8⟩ : ∃ w8, w7.setCell ⟨B, 1, none⟩ (.int .i64 (suf3 + 1)) = w8 := ⟨_, rfl⟩
          have HC8 := Lib.hid (show ItC J Q0 B bb b (some ⟨bs, os, none⟩) N c num3 (suf3 + 1) pre3 (Qn Q3 wi w7) w8 from by
            rw [← hw8]
            refine HC7.out.set HJ.out (Mv.set _) (by simp) ?_ (by omega) (by have := HQL.out 4 h4; omega) (fun j hj => by have := HQL.out j hj; omega)
            rw [heap_setCell_same _ B 1 _ 64 _ HC7.out.hB]
            rfl)
          have x0 := cell_of HC8.out.hB (i := 0) rfl
          have x1 := cell_of HC8.out.hB (i := 1) rfl
          have hk8 : ∀ q, q ≠ B → w8.heap[q]? = w7.heap[q]? := fun q hq => by rw [← hw8]; exact heap_setCell_other _ ⟨B, 1, none⟩ q _ hq
          have hB58 := (hk8 b5 h5B).trans HB57.out
          have hB98 := (hk8 b9 h9B).trans HB9.out
          have p0 := cell_of hB58 (i := 0) rfl
          have p2 := cell_of hB58 (i := 2) rfl
          have hv8 : w8.cell? ⟨bv, ov + k, none⟩ = some (.int .i64 v) := by
            rw [← hw8]
            exact (World.cell?_setCell_other _ _ _ _ (by intro e; injection e with e; exact hbB e.symm)).trans v0
          have s0 := cell_of hB98 (i := 0) rfl
          have s1 := cell_of hB98 (i := 1) rfl
          have s2 := cell_of hB98 (i := 2) rfl
          have s3 := cell_of hB98 (i := 3) rfl
          have s4 := cell_of hB98 (i := 4) rfl
          have s5 := cell_of hB98 (i := 5) rfl
          have t0 := frozen_of hB98 0
          have t1 := frozen_of hB98 1
          have t2 := frozen_of hB98 2
          have t3 := frozen_of hB98 3
          have hb59 : ¬ b5 = b9 := by have := lt_of_block HB5.out; omega
          have hbv9 : ¬ bv = b9 := by omega
          have hBn9 : ¬ B = b9 := by omega
          have hb95 : b9 ≠ b5 := fun e => hb59 e.symm
          have hb9v : b9 ≠ bv := fun e => hbv9 e.symm
          rw [hw8]
          have hsz8 : w8.heap.size = w7.heap.size := by rw [← hw8]; simp
          have HB98 := Lib.hid hB98
          have HMV8 := Lib.hid (show Mv B wi w8 by rw [← hw8]; exact (Mv.of_ext HX7.out).trans (Mv.set _))
          clear hw8 hB58 hB98 y1 y2 y3 y4 v0 q0 q1 q2 q3 q4 q5
          go_region_held3 (fun W => W.cell? ⟨B, 0, none⟩ = some (.int .i64 num3) ∧ W.cell? ⟨B, 1, none⟩ = some (.int .i64 (suf3 + 1)) ∧ W.cell? ⟨b5, 0, none⟩ = some (.int .i64 x.ent) ∧ W.cell? ⟨b5, 2, none⟩ = some (.slice (some ⟨bv, ov, none⟩) n1 c1) ∧ W.cell? ⟨bv, ov + k, none⟩ = some (.int .i64 v)) (go_keep) (fail)
          all_goals
            obtain ⟨w9, hw9⟩ : ∃ w9, ((((w8.setCell ⟨b9, 0, none⟩ (.int .i64 num3)).setCell ⟨b9, 1, none⟩ (.int .i64 (suf3 + 1))).setCell ⟨b9, 2, none⟩ (.int .i64 x.ent)).setCell ⟨b9, 3, none⟩ (.int .i64 v)).drew = w9 := ⟨_, rfl⟩
            rw [hw9]
            have hk9 : ∀ q, q ≠ b9 → w9.heap[q]? = w8.heap[q]? := fun q hq => by
              rw [← hw9]
              exact (heap_setCell_other _ ⟨b9, 3, none⟩ q _ hq).trans ((heap_setCell_other _ ⟨b9, 2, none⟩ q _ hq).trans ((heap_setCell_other _ ⟨b9, 1, none⟩ q _ hq).trans (heap_setCell_other _ ⟨b9, 0, none⟩ q _ hq)))
            have hsz9 : w9.heap.size = w7.heap.size := by rw [← hw9]; rw [← hsz8]; simp
            have hmv9 : Mv B wi w9 := by
              rw [← hw9]
              exact ((((HMV8.out.setNew (p := ⟨b9, 0, none⟩) (by show wi.heap.size ≤ b9; omega) _).setNew (p := ⟨b9, 1, none⟩) (by show wi.heap.size ≤ b9; omega) _).setNew (p := ⟨b9, 2, none⟩) (by show wi.heap.size ≤ b9; omega) _).setNew (p := ⟨b9, 3, none⟩) (by show wi.heap.size ≤ b9; omega) _).trans (Mv.of_ext (Ext.refl _).drew)
            have hC9l : wi.heap.size ≤ w9.heap.size := by have := HX7.out.lt; omega
            have HC9 := Lib.hid (show ItC J Q0 B bb b (some ⟨bs, os, none⟩) N c num3 (suf3 + 1) pre3 (Qn Q3 wi w9) w9 from
              HC.out.mv HJ.out hmv9 (by have := HX7.out.lt; omega) ((hk9 B (by omega)).trans HC8.out.hB) (by omega) (by have := HQL.out 4 h4; omega) (fun j hj => by have := HQL.out j hj; omega))
            have HB99 := Lib.hid (show w9.heap[b9]? = some (.cells #[.int .i64 num3, .int .i64 (suf3 + 1), .int .i64 x.ent, .int .i64 v, .slice A7 n7 c7, .slice A8 n8 c8] 84 (0, 0)) by
              rw [← hw9]
              exact heap_setCell_same _ b9 3 _ 84 _ (heap_setCell_same _ b9 2 _ 84 _ (heap_setCell_same _ b9 1 _ 84 _ (heap_setCell_same _ b9 0 _ 84 _ HB98.out))))
            have HRp := Lib.hid (show pgRp (fun j => (Qn Q3 wi w9 j ∧ j ≠ B) ∧ w.heap.size ≤ j) (⟨num3, (suf3 + 1), x.ent, v, pg.1, pg.2⟩, (A7, n7, c7), (A8, n8, c8)) w9 from
              ⟨hn7, hn8, Lay.row_mono (Lay.row_keep HR7.out hC9l fun j hj hl => hmv9.keep j hj.1.2.2 hl) fun j hj _ => ⟨⟨.inl hj.1.1, hj.1.2.2⟩, hj.2⟩, Lay.row_mono (Lay.row_keep HR8.out hC9l fun j hj hl => hmv9.keep j hj.1.2.2 hl) fun j hj _ => ⟨⟨.inl hj.1.1, hj.1.2.2⟩, hj.2⟩, HLB.out pg (List.mem_of_getElem? HPI.out)⟩)
            have hq0B : ∀ j, Q0 j → j ≠ B := fun j hj => by have := HQL.out j hj; omega
            have HNX := Lib.hid (fun (W2 : World) (hJ2 : J (pre3 ++ [(⟨num3, (suf3 + 1), x.ent, v, pg.1, pg.2⟩, (A7, n7, c7), (A8, n8, c8))]) (Qn Q3 wi w9) W2) (hk2 : ∀ j, Qn Q3 wi w9 j → W2.heap[j]? = w9.heap[j]?) =>
              show ItI J Q0 B bb b (some ⟨bs, os, none⟩) N c b5 x (some ⟨bv, ov, none⟩) n1 c1 (some ⟨bt, ot, none⟩) n2 c2 (b.secs.drop (i + 1)) k v pgs (some ⟨bp, op, none⟩) w.heap.size (.int .i64 ((p : Int) + 1)) W2 from
              itI_next HPI.out hbb h4 (by rw [show stN k num3 = num3 from (if_neg HK0.out), show stS k suf3 = (suf3 + 1) from (if_neg HK0.out)]; exact HC9.out) (.inr ⟨by have := HS7.out; omega, by have := HS7.out; omega⟩) ⟨hd0, hd1, hd2, hd3⟩ hq5
                ((hmv9.keep b5 h5B (lt_of_block HB5.out)).trans HB5.out) (Lay.row_keep HR1.out hC9l fun j hj hl => hmv9.keep j (hq0B j hj) hl) (Lay.row_keep HR2.out hC9l fun j hj hl => hmv9.keep j (hq0B j hj) hl)
                (Lay.row_keep HRP.out hC9l fun j hj hl => hmv9.keep j hj.1.2.2 hl) HS.out (by rw [show stN k num3 = num3 from (if_neg HK0.out), show stS k suf3 = (suf3 + 1) from (if_neg HK0.out)]) hJ2 hk2)
            have HST := Lib.hid (show (pre3 ++ [((⟨num3, (suf3 + 1), x.ent, v, pg.1, pg.2⟩, (A7, n7, c7), (A8, n8, c8)) : PgV)]).map (·.1) <+: pagesB b from
              itI_stop HPI.out HS.out (by rw [show stN k num3 = num3 from (if_neg HK0.out), show stS k suf3 = (suf3 + 1) from (if_neg HK0.out)]))
            obtain ⟨fn, tm, asg, bod, hy, hRo⟩ := HY.out pre3 (⟨num3, (suf3 + 1), x.ent, v, pg.1, pg.2⟩, (A7, n7, c7), (A8, n8, c8)) (Qn Q3 wi w9) w9 HC9.out.j HRp.out HC9.out.lt (by omega) HST.out
            dsimp only [pgEnc] at hy
            have r0 := cell_of HB99.out (i := 0) rfl
            have r1 := cell_of HB99.out (i := 1) rfl
            have r2 := cell_of HB99.out (i := 2) rfl
            have r3 := cell_of HB99.out (i := 3) rfl
            have r4 := cell_of HB99.out (i := 4) rfl
            have r5 := cell_of HB99.out (i := 5) rfl
            clear hw9 hk9 hmv9 hsz9 hsz8 hk8 p0 p2 hv8 s0 s1 s2 s3 s4 s5 t0 t1 t2 t3 x0 x1
            go_upto_region 16 with (fail)
            refine (wpIn_wide (n := n)).1 ?_
            gi_wp2
            refine ⟨fun h => by simp [Fence.wide] at h, hRo.mono ?_⟩
            rintro e W2 (⟨rfl, hJ2, hk2⟩ | ⟨rfl, hJx2⟩)
            · have HN2 := Lib.hid (HNX.out W2 hJ2 hk2)
              clear hJ2 hk2 HX5 HC9 HB99 HRp
              dsimp only
              gi_wp2
              go_wp2_with fail
              go_roundw
              case rel => exact HN2.out
              case measure => simp only [toM]; omega
            · have HX2 := Lib.hid (show (∃ pre Q, pre.map (·.1) <+: pagesB b ∧ Jx pre Q W2) from ⟨_, _, HST.out, hJx2⟩)
              clear hJx2 HX5 HC9 HB99 HRp
              dsimp only
              gi_wp2
              go_wp2_with fail
              refine bodyPost_ret (results_none rfl _ _ _) rfl ?_
              exact ⟨⟨_, rfl⟩, .inr (by obtain ⟨q1, q2, h1, h2⟩ := HX2.out; exact ⟨q1, q2, h1, h2⟩)⟩
end Go.Proofs.YtdbnddmncbjobaaGreatDoor
