/- The reference's Set: walked (printed by genve.py). -/
import Derived.Test.YtdbnddmncbjobaaGreatDoorMbm
namespace Go.Proofs.YtdbnddmncbjobaaGreatDoor
open Go Go.RowKit
theorem vq_cut {W : World} {b : Nat} {P : Nat → Prop} {A : Option Addr} {m c s : Nat} {q : List Ln} (h : kLn.que 86 W b P (.slice A m c) (q.drop s)) (hm : (q.drop s).length = m) (hc : m ≤ c) (h0 : 0 < m) :
  ∃ A' c', (∀ Y, kLn.que 86 Y b P (.slice A m c) (q.drop s) → kLn.que 86 Y b P (.slice A' (m - 1) c') (q.drop (s + 1))) ∧ (∀ j, (Value.slice A' (m - 1) c').ownBlock = some j → (Value.slice A m c).ownBlock = some j) ∧
   ∀ X, (Instr.sliceAt 82 (.slice A m c) (some (.int .i64 1)) none none).run Tryz.prog X = .ok (.slice A' (m - 1) c') X := by
 rcases que_form h with ⟨_, h1, _⟩ | ⟨g, o, rfl⟩
 ·omega
 ·have hrun := fun X => slice_lo g o m c 1 (by omega) hc X
  refine ⟨_, _, fun Y hY => ?_, fun j hj => hj, hrun⟩
  by_cases hcs : c = 1
  ·subst hcs
   obtain rfl : m = 1 := by omega
   rw [if_pos rfl, List.drop_of_length_le (by rw [List.length_drop] at hm; omega)]
   exact que_empty' hY
  ·rw [if_neg hcs, ← drop_one]
   exact Lay.que_drop hY 1 (by omega)
set_option maxHeartbeats 16000000 in
set_option maxRecDepth 100000 in
theorem rset_any (P P' : Nat → Prop) (w : World) (A A' : Option Addr) (n n' c c' M : Nat) (body : List Ln) (notes : List (List Ln)) (h : Int) (h1 : kLn.row w P A n body) (h2 : kLs.row w P' A' n' notes) (hc : chkPg body notes h = 0) (hM : leftP notes body [] ≤ M) (hM1 : M ≤ 100000) (hn' : n' ≤ 100000) (hl : LnsB body) (hln : ∀ l ∈ notes, LnsB l) (hnt : NtsOk notes.length body) :
  Calls Tryz.prog 146 #[.slice A n c, .slice A' n' c', .int .i64 h] w (fun e w' => ∃ A1 c1, e = .returned (.tuple #[.slice A1 (setPg body notes h).2.length c1, .int .i64 0]) ∧ kPg.own 84 w' w.heap.size (fun j => w.heap.size ≤ j) (.slice A1 (setPg body notes h).2.length c1) ((setPg body notes h).2.map pgOf) ∧ Ext w w') := by
 have HE1 := Hd (Lay.row_len h1)
 have HE2 := Hd (Lay.row_len h2)
 have hbn := leftP_len notes body []
 have hnM : n ≤ 100000 := by have := HE1.out; omega
 have HWR := Hd (rwrong_any (fun _ => True) w A A' n n' c c' body notes h (Lay.row_mono h1 fun _ _ _ => trivial) (Lay.row_mono h2 fun _ _ _ => trivial) hc hnM hn')
 have HR1 := Hd h1
 have HR2 := Hd h2
 have HLB := Hd hl
 have HLN := Hd hln
 have HNT0 := Hd hnt
 have hh : 4 ≤ h ∧ h ≤ 100 := by
  obtain ⟨k1, k2, _⟩ := chkPg_inv hc
  omega
 obtain ⟨hh1, hh2⟩ := hh
 obtain ⟨all, hall⟩ : ∃ all, (setPg body notes h).2 = all := ⟨_, rfl⟩
 have HALL := Hd (show all = setF h notes (leftP notes body []) body [] by rw [← hall]; unfold setPg; rw [if_neg (by rw [hc]; simp)])
 rw [hall]
 clear h1 h2 hc hl hln hnt hall
 go_enter Tryz.func146, Tryz.ntmps146
 go_wp2_with (first | (go_at_call 180; refine (HWR.out).mono ?_; rintro e w1 ⟨rfl, rfl⟩))
 go_loopw [9, 10, 11, 12, 13] (fun s9 s10 s11 _ _ w' => VsO w M h notes body all s9 s10 s11 w') (fun s9 _ _ _ _ _ => M - slen s9)
 case atStart => exact ⟨0, [], [], by omega, rfl, ⟨Lay.own_nil _ _ _ _ _, fun j hj => nomatch hj⟩, Lay.que_nil _ _ _ _ _, by simpa using HALL.out, by simpa using hM, (fun x hx => nomatch hx), Ext.refl _⟩
 obtain ⟨a, q, pgs, ha, rfl, hout, hque, heq, hleft, hlq, hx⟩ := hrel
 rename World => wr
 have HOUT := Hd hout
 have HQUE := Hd hque
 have HEQ := Hd heq
 have HX := Hd hx
 have HLQ := Hd hlq
 obtain ⟨A9, c9, e9, hc9, _⟩ := Lay.own_row hout.1
 rw [List.length_map] at e9 hc9
 subst e9
 obtain ⟨Aq, cq, eq, hcq, _⟩ := Lay.que_len hque
 obtain ⟨ql, hql⟩ : ∃ ql, q.length = ql := ⟨_, rfl⟩
 rw [hql] at eq hcq
 subst eq
 rw [← HE1.out] at ha
 clear hout hque heq hlq hx
 by_cases hdone : a = n ∧ q = []
 ·obtain ⟨rfl, rfl⟩ := hdone
  obtain rfl : ql = 0 := by simpa using hql.symm
  have hni : ¬ ((a : Int) < (a : Int)) := by omega
  have HF := Hd (show all = pgs by
   rw [HEQ.out, List.drop_of_length_le (by have := HE1.out; omega)]
   unfold leftP
   simp [setF])
  go_wp2_with fail
  refine bodyPost_ret (v := .tuple #[.slice A9 pgs.length c9, .int .i64 0]) (by simp [results, Tryz.results146, go_sem, *]) rfl ?_
  rw [HF.out]
  exact ⟨A9, c9, rfl, Lay.own_mono HOUT.out.1 fun j hj _ => hj.1, HX.out⟩
 have HGO := Hd (show ¬ (body.drop a = [] ∧ q = []) from fun e => hdone ⟨by
  have := congrArg List.length e.1
  rw [List.length_drop, List.length_nil] at this
  have := HE1.out
  omega, e.2⟩)
 go_upto_region 7 with (fail)
 go_cut [29] (fun s29 wx => s29 = .bool true ∧ wx = wr)
 case first =>
  by_cases han : a < n
  ·have han' : (a : Int) < (n : Int) := by omega
   go_wp2_with fail
   go_meet
   case rel => exact ⟨rfl, rfl⟩
  ·have han' : ¬ ((a : Int) < (n : Int)) := by omega
   have hq0 : 0 < ql := by
    rcases Nat.eq_zero_or_pos ql with h9 | h9
    ·exact absurd ⟨by omega, List.eq_nil_of_length_eq_zero (hql.trans h9)⟩ hdone
    ·exact h9
   have hq0' : (0 : Int) < (ql : Int) := by omega
   go_wp2_with fail
   go_meet
   case rel => exact ⟨rfl, rfl⟩
 obtain ⟨rfl, rfl⟩ := hcut
 rename World => wr
 go_upto_region 9 with (fail)
 obtain ⟨r0, hr0⟩ : ∃ r0, fillP h notes (body.drop a) q 0 (min (q.length : Int) (h - 1)) = r0 := ⟨_, rfl⟩
 have HR0 := Hd hr0
 have HSTEP := Hd (setF_step hh1 notes (body.drop a) q HGO.out r0 hr0)
 have HPS := Hd (PgW.start HX.out HQUE.out)
 obtain ⟨z, hz⟩ : ∃ z, wr.heap.size = z := ⟨_, rfl⟩
 rw [hz] at HPS
 obtain ⟨W1, hW1⟩ : ∃ W1, wr.alloc (.cells #[.int .i64 0, .int .i64 0, .int .i64 0, .int .i64 0, .slice none 0 0, .slice none 0 0] 84) = W1 := ⟨_, rfl⟩
 rw [hW1] at HPS
 rw [hW1, hz]
 have HZ := Hd hz
 have hqM : q.length ≤ 100000 := by have : q.length ≤ leftP notes (body.drop a) q := by unfold leftP; omega
                                    omega
 have hlf : leftP notes (body.drop a) q ≤ M := by omega
 have hpg : pgs.length ≤ 100000 := by omega
 have hpgM : pgs.length < M := by have := HSTEP.out.2.1; omega
 clear hr0 hW1 hz hdone hcq
 go_loopw [10] (fun s10 w' => VsA w wr z (.slice Aq ql cq) h q s10 w') (fun s10 _ => slen s10)
 case atStart => exact ⟨0, _, by omega, by omega, by rw [List.take_zero, List.drop_zero]; exact HPS.out⟩
 obtain ⟨s, Nv, hsq, hsh, hpg0⟩ := hrel
 rename World => wv
 have hn8 : (q.take s).length = s := by rw [List.length_take]; omega
 obtain ⟨m, hmq⟩ : ∃ m, (q.drop s).length = m := ⟨_, rfl⟩
 have hms1 : m ≤ q.length - s := by rw [← hmq, List.length_drop]; exact Nat.le_refl _
 have hms2 : q.length - s ≤ m := by rw [← hmq, List.length_drop]; exact Nat.le_refl _
 obtain ⟨A8, c8, rfl, hc8⟩ := hpg0.noteV hn8
 obtain ⟨A0, c0, rfl, hcm⟩ := hpg0.queV hmq
 have HPG := Hd hpg0
 have z5 := cof hpg0.box (i := 5) (u := .slice A8 s c8) rfl
 clear hpg0
 obtain ⟨T, hT⟩ : ∃ T, decide (0 < m ∧ (s : Int) < h - 1) = T := ⟨_, rfl⟩
 have HT := Hd hT
 clear hT
 go_upto_region 9 with (fail)
 go_cut [41] (fun s41 wx => s41 = .bool T ∧ wx = wv)
 case first =>
  by_cases hm0 : 0 < m
  ·have hm0' : (0 : Int) < (m : Int) := by omega
   have hm0b : decide ((0 : Int) < (m : Int)) = true := by simpa using hm0
   by_cases hs1 : (s : Int) < h - 1
   ·go_wp2_with fail
    go_meet
    case rel => exact ⟨by rw [← HT.out, decide_eq_true (show 0 < m ∧ (s : Int) < h - 1 from ⟨hm0, hs1⟩)], rfl⟩
   ·go_wp2_with fail
    go_meet
    case rel => exact ⟨by rw [← HT.out, decide_eq_false (show ¬ (0 < m ∧ (s : Int) < h - 1) from fun e => by omega)], rfl⟩
  ·have hm0' : ¬ (0 : Int) < (m : Int) := by omega
   have hm0b : decide ((0 : Int) < (m : Int)) = false := by simpa using hm0
   go_wp2_with fail
   go_meet
   case rel => exact ⟨by rw [← HT.out, decide_eq_false (show ¬ (0 < m ∧ (s : Int) < h - 1) from fun e => hm0 e.1)], rfl⟩
 obtain ⟨rfl, rfl⟩ := hcut
 rename World => wv
 cases T with
 | true =>
  obtain ⟨hm0, hs1⟩ := of_decide_eq_true HT.out
  obtain ⟨x, hx⟩ : ∃ x, q[s]? = some x := ⟨_, List.getElem?_eq_getElem (by omega)⟩
  have hx0 : (q.drop s)[0]? = some x := by rw [List.getElem?_drop]; exact hx
  obtain ⟨g, o, cs, ea, hgl, _, hrep, hcell⟩ := Lay.row_at (Lay.que_row HPG.out.qo) hx0
  subst ea
  obtain ⟨G1, g1, e1, G2, g2, e2, rfl, he1, he2, hr1, hr2⟩ := kLn_rep.1 hrep
  have y0 := hcell 0 _ rfl
  have y1 := hcell 1 _ rfl
  have y2 := hcell 2 _ rfl
  have y3 := hcell 3 _ rfl
  rw [Nat.zero_mul, Nat.add_zero] at y0 y1 y2 y3
  try rw [Nat.add_zero] at y0
  have hxl := HLQ.out x (List.mem_of_getElem? hx)
  obtain ⟨xf, xu, xg, xn⟩ := x
  simp only at y0 y1 y2 y3 hr1 hr2 hxl
  have eg1 : g1 ≤ 1000000 := by have := Lay.row_len hr1; omega
  have eg2 : g2 ≤ 1000000 := by have := Lay.row_len hr2; omega
  have HCP := Hd (fun X (hX : Ext wv X) => rcopy_any _ X (⟨xf, xu, xg, xn⟩ : Ln) G1 G2 g1 g2 e1 e2 (Lay.row_ext hr1 hX) (Lay.row_ext hr2 hX) he1 he2 (by omega) (by omega))
  have HBX := Hd HPG.out.box
  have HS0 := Hd (fun X (hX : Ext wv X) => (show X.cell? ⟨z, 5, none⟩ = some (.slice A8 s c8) ∧ X.cell? ⟨g, o, none⟩ = some (.int .i64 xf) ∧ X.cell? ⟨g, o + 1, none⟩ = some (.int .i64 xu) ∧ X.cell? ⟨g, o + 2, none⟩ = some (.slice G1 g1 e1) ∧ X.cell? ⟨g, o + 3, none⟩ = some (.slice G2 g2 e2) from
   ⟨cof ((hX.block _ (lt_of_block HBX.out)).trans HBX.out) (i := 5) rfl, (hX.cells.1 g _ hgl).trans y0, (hX.cells.1 g _ hgl).trans y1, (hX.cells.1 g _ hgl).trans y2, (hX.cells.1 g _ hgl).trans y3⟩))
  have hng : (Value.slice A8 s c8).ownBlock ≠ some g := fun e => HPG.out.dnq g e rfl
  have HS9 := Hd (fun X (hX : Ext wv X) (w9 : World) (hb : w9.heap[z]? = some (.cells #[.int .i64 0, .int .i64 0, .int .i64 0, .int .i64 0, .slice none 0 0, .slice A8 s c8] 84 (0, 0))) (hk : ∀ j, j < X.heap.size → (Value.slice A8 s c8).ownBlock ≠ some j → w9.heap[j]? = X.heap[j]?) => (show w9.cell? ⟨z, 5, none⟩ = some (.slice A8 s c8) ∧ w9.cell? ⟨g, o, none⟩ = some (.int .i64 xf) ∧ w9.cell? ⟨g, o + 1, none⟩ = some (.int .i64 xu) ∧ w9.cell? ⟨g, o + 2, none⟩ = some (.slice G1 g1 e1) ∧ w9.cell? ⟨g, o + 3, none⟩ = some (.slice G2 g2 e2) from
   have h9 := HS0.out X hX
   have h8 : w9.heap[g]? = X.heap[g]? := hk g (Nat.lt_of_lt_of_le hgl hX.lt) hng
   ⟨cof hb (i := 5) rfl, (World.cell?_of_block (a := ⟨g, _, none⟩) h8).trans h9.2.1, (World.cell?_of_block (a := ⟨g, _, none⟩) h8).trans h9.2.2.1, (World.cell?_of_block (a := ⟨g, _, none⟩) h8).trans h9.2.2.2.1, (World.cell?_of_block (a := ⟨g, _, none⟩) h8).trans h9.2.2.2.2⟩))
  obtain ⟨A5, c5, hq5, ho5, hcq⟩ := vq_cut HPG.out.qo hmq hcm (by omega)
  have HQ5 := Hd (fun (_ : Unit) => hq5)
  have HNT := Hd (fun X (hX : Ext wv X) (B1 B2 : Option Addr) (m1 d1 m2 d2 : Nat) (h1 : m1 ≤ d1) (h2 : m2 ≤ d2) (k1 : kInt.row X (fun j => wv.heap.size ≤ j) B1 m1 xg) (k2 : kInt.row X (fun j => wv.heap.size ≤ j) B2 m2 xn) =>
   HPG.out.note hX (x := (⟨xf, xu, xg, xn⟩ : Ln)) (cs := #[.int .i64 xf, .int .i64 xu, .slice B1 m1 d1, .slice B2 m2 d2]) (kLn_rep.2 ⟨B1, m1, d1, B2, m2, d2, rfl, h1, h2, k1, k2⟩) (by rw [hn8]; omega) (qv' := .slice A5 (m - 1) c5) (Q' := q.drop (s + 1)) (fun Y hY => HQ5.out () Y hY) ho5)
  clear hx0 hgl hrep hcell y0 y1 y2 y3 hr1 hr2 hng hq5 ho5 he1 he2 hxl
  go_upto_region 10 with (fail)
  have hS0 : (fun X : World => X.cell? ⟨z, 5, none⟩ = some (.slice A8 s c8) ∧ X.cell? ⟨g, o, none⟩ = some (.int .i64 xf) ∧ X.cell? ⟨g, o + 1, none⟩ = some (.int .i64 xu) ∧ X.cell? ⟨g, o + 2, none⟩ = some (.slice G1 g1 e1) ∧ X.cell? ⟨g, o + 3, none⟩ = some (.slice G2 g2 e2)) wv.drew := HS0.out _ (Ext.refl _).drew
  refine wp_region_E (fun X : World => X.cell? ⟨z, 5, none⟩ = some (.slice A8 s c8) ∧ X.cell? ⟨g, o, none⟩ = some (.int .i64 xf) ∧ X.cell? ⟨g, o + 1, none⟩ = some (.int .i64 xu) ∧ X.cell? ⟨g, o + 2, none⟩ = some (.slice G1 g1 e1) ∧ X.cell? ⟨g, o + 3, none⟩ = some (.slice G2 g2 e2)) (fun _ => True) (fun i => i == 9) (by kernel_rfl) ?_
  refine wpE_tk 0 42 (.pointer (some ⟨z, 5, none⟩)) hS0 ?_ ?_
  ·intro w9 hT9; clear hT9; go_simp
  (try simp only [Act.put, ptA, ptB, ptC])
  refine wpE_tk 1 43 (.slice A8 s c8) hS0 ?_ ?_
  ·intro w9 hT9; obtain ⟨y0, y1, y2, y3, y4⟩ := hT9; go_simp
  (try simp only [Act.put, ptA, ptB, ptC])
  refine wpE_tk 2 44 (.slice (some ⟨g, o, none⟩) m c0) hS0 ?_ ?_
  ·intro w9 hT9; clear hT9; go_simp
  (try simp only [Act.put, ptA, ptB, ptC])
  refine wpE_tk 3 45 (.pointer (some ⟨g, o, none⟩)) hS0 ?_ ?_
  ·intro w9 hT9; clear hT9; go_simp
  (try simp only [Act.put, ptA, ptB, ptC])
  refine wpE_tk 4 46 (.agg #[.int .i64 xf, .int .i64 xu, .slice G1 g1 e1, .slice G2 g2 e2]) hS0 ?_ ?_
  ·intro w9 hT9; obtain ⟨y0, y1, y2, y3, y4⟩ := hT9; go_simp
  (try simp only [Act.put, ptA, ptB, ptC])
  refine wal (rs := [5]) (by kernel_rfl) (by simp) ?_
  refine AllE.cons rfl (fun K hK => ?_) AllE.nil
  simp only [List.getElem_toArray, List.getElem_cons_succ, List.getElem_cons_zero]
  go_simp
  go_at_call 181
  refine (HCP.out _ (Ext.refl _).drew).mono ?_
  rintro z9 wG ⟨v9, rfl, hv9, hxG⟩
  obtain ⟨B1, m1, d1, B2, m2, d2, rfl, hm1, hm2, hr1, hr2⟩ := hv9
  have hcur : Ext wv wG := (Ext.refl _).drew.trans hxG
  simp only []
  refine hK.out _ _ ⟨fun _ => (HS0.out _ hcur), trivial⟩ (fun _ => ?_)
  clear hK K
  have hS0 := (HS0.out _ hcur)
  (try simp only [Act.put, ptA, ptB, ptC])
  refine wal (rs := [6]) (by kernel_rfl) (by simp) ?_
  refine AllE.cons rfl (fun K hK => ?_) AllE.nil
  simp only [List.getElem_toArray, List.getElem_cons_succ, List.getElem_cons_zero]
  go_simp
  refine hK.out _ _ ⟨fun _ => (HS0.out _ (hcur.alloc (.cells #[.int .i64 xf, .int .i64 xu, .slice B1 m1 d1, .slice B2 m2 d2] 86))), trivial⟩ (fun _ => ?_)
  clear hK K
  have hS0 := (HS0.out _ (hcur.alloc (.cells #[.int .i64 xf, .int .i64 xu, .slice B1 m1 d1, .slice B2 m2 d2] 86)))
  (try simp only [Act.put, ptA, ptB, ptC])
  refine wal (rs := [7]) (by kernel_rfl) (by simp) ?_
  refine AllE.cons rfl (fun K hK => ?_) AllE.nil
  simp only [List.getElem_toArray, List.getElem_cons_succ, List.getElem_cons_zero]
  obtain ⟨A9, c9, w9, hrun, hb9, hx9, hk9, hp9⟩ := HNT.out wG hcur B1 B2 m1 d1 m2 d2 hm1 hm2 hr1 hr2
  have HC9 := Hd (HS9.out wG hcur w9 hb9 hk9)
  have HB9 := Hd hb9
  have HP9 := Hd hp9
  clear hb9 hk9 hp9 hx9 hr1 hr2
  refine step_append_tm (s := .tmp 43) (x := .tmp 48) hrun rfl rfl rfl rfl rfl ?_
  refine hK.out _ _ ⟨fun _ => HC9.out, trivial⟩ (fun _ => ?_)
  clear hK K
  have hS0 := HC9.out
  (try simp only [Act.put, ptA, ptB, ptC])
  refine wpE_tk 8 50 (.pointer (some ⟨z, 5, none⟩)) hS0 ?_ ?_
  ·intro w9 hT9; clear hT9; go_simp
  (try simp only [Act.put, ptA, ptB, ptC])
  refine wal (rs := [9]) (by kernel_rfl) (by simp) ?_
  refine AllE.cons rfl (fun K hK => ?_) AllE.nil
  simp only [List.getElem_toArray, List.getElem_cons_succ, List.getElem_cons_zero]
  have z5 := HC9.out.1
  have z6 := fof HB9.out 5
  go_simp
  refine hK.out _ _ ⟨fun h => absurd h (by simp), trivial⟩ (fun _ => ?_)
  clear hK K
  (try simp only [Act.put, ptA, ptB, ptC])
  refine wpE_done (by kernel_rfl) ?_ _
  go_wp2_with fail
  go_roundw
  case rel => exact ⟨s + 1, _, by omega, by omega, by
   have h9 := HP9.out
   rwa [hn8, ← take_one hx] at h9⟩
  case measure => simp only [slen]; omega
 | false =>
  have hTF := of_decide_eq_false HT.out
  have hsmin : (s : Int) = min (q.length : Int) (h - 1) := by omega
  have HR0s := Hd (show fillP h notes (body.drop a) q 0 (s : Int) = r0 by rw [hsmin]; exact HR0.out)
  have HFS := Hd (show FillI h q 0 (s : Int) by rw [hsmin]; exact fill_start hh1 q)
  clear hsmin hTF
  go_wp2_with fail
  clear z5
  go_loopw [10, 11, 13] (fun s10 s11 _ w' => VsB w wr z (.slice Aq ql cq) M h notes body a r0 s10 s11 w') (fun _ s11 _ _ => toM n s11)
  case atStart => exact ⟨0, s, a, q, _, _, by omega, by have := HE1.out; omega, rfl, HFS.out, HR0s.out, HLQ.out, hlf, by rw [List.take_zero]; exact HPG.out⟩
  clear HR0s HFS HPG hsq hsh hn8 hmq hms1 hms2 hc8 hcm HLQ
  obtain ⟨l, s, k, q, Bv, Nv, hkl, hkb, rfl, hfi, hfp, hlq, hlf2, hpg0⟩ := hrel
  rename World => wv
  rw [← HE1.out] at hkb
  have HKL := Hd hkl
  have hkl1 : k ≤ a + l := by omega
  have hkl2 : a + l ≤ k := by omega
  clear hkl
  have HFI := Hd hfi
  have HFP := Hd hfp
  have HLQ := Hd hlq
  have hsq : s ≤ q.length := by have := hfi.le; omega
  have hqM2 : q.length ≤ 100000 := by have : q.length ≤ leftP notes (body.drop k) q := by unfold leftP; omega
                                      omega
  have hn8 : (q.take s).length = s := by rw [List.length_take]; omega
  have hn7 : ((body.drop a).take l).length = l := by rw [List.length_take, List.length_drop]; have := HE1.out; omega
  obtain ⟨m, hmq⟩ : ∃ m, (q.drop s).length = m := ⟨_, rfl⟩
  have hms1 : m ≤ q.length - s := by rw [← hmq, List.length_drop]; exact Nat.le_refl _
  have hms2 : q.length - s ≤ m := by rw [← hmq, List.length_drop]; exact Nat.le_refl _
  obtain ⟨A8, c8, rfl, hc8⟩ := hpg0.noteV hn8
  obtain ⟨A7, c7, rfl, hc7⟩ := hpg0.bodyV hn7
  obtain ⟨A0, c0, rfl, hcm⟩ := hpg0.queV hmq
  have HPG := Hd hpg0
  have HXV := Hd hpg0.ext
  clear hfi hfp hlq hpg0
  obtain ⟨T, hT⟩ : ∃ T, (match body[k]? with | some x => fitsP h q x l (s : Int) | none => false) = T := ⟨_, rfl⟩
  have HT := Hd hT
  clear hT
  go_upto_region 12 with (fail)
  go_cut [67] (fun s67 wx => s67 = .bool T ∧ Ext wv wx)
  case first =>
   by_cases hkn : k < n
   case neg =>
    have hkn' : ¬ ((k : Int) < (n : Int)) := by omega
    have hknb : decide ((k : Int) < (n : Int)) = false := decide_eq_false hkn'
    have hTf : T = false := by rw [← HT.out, List.getElem?_eq_none (by have := HE1.out; omega)]
    subst hTf
    go_quiet (fail)
    go_wp2
    go_meet
    case rel => exact ⟨rfl, (Ext.refl _).drewN _⟩
   have hkI : (k : Int) < (n : Int) := by omega
   obtain ⟨x, hx⟩ : ∃ x, body[k]? = some x := ⟨_, List.getElem?_eq_getElem (by have := HE1.out; omega)⟩
   obtain ⟨bb, ob, cs, rfl, hbb, _, hrep, hcell⟩ := Lay.row_at (Lay.row_ext HR1.out HXV.out) hx
   obtain ⟨G1, g1, e1, G2, g2, e2, rfl, he1, he2, hr1, hr2⟩ := kLn_rep.1 hrep
   have y0 := hcell 0 _ rfl
   have y1 := hcell 1 _ rfl
   have y2 := hcell 2 _ rfl
   have y3 := hcell 3 _ rfl
   rw [kLn_sz] at y0 y1 y2 y3
   rw [Nat.add_zero] at y0
   have eg2 := Lay.row_len hr2
   have HTE := Hd (show fitsR l s g2 (m : Int) h = T by
    rw [← HT.out, hx, show m = q.length - s by omega, eg2]
    exact fits_eq HFI.out x)
   obtain ⟨xf, xu, xg, xn⟩ := x
   simp only at y0 y1 y2 y3
   have HFT := Hd (fun X => (show Calls Tryz.prog 182 #[.agg #[.int .i64 0, .int .i64 0, .int .i64 0, .int .i64 0, .slice A7 l c7, .slice A8 s c8], .agg #[.int .i64 xf, .int .i64 xu, .slice G1 g1 e1, .slice G2 g2 e2], .int .i64 (m : Int), .int .i64 h] X (fun e w' => e = .returned (.bool T) ∧ Ext X w') from by
    rw [← HTE.out]
    exact rfits_any X 0 0 0 0 xf xu (m : Int) h A7 A8 G1 G2 l c7 s c8 g1 e1 g2 e2 (by omega) (by omega) (by omega) (by omega)))
   have HBX := Hd HPG.out.box
   have HS0 := Hd (fun X (hX : Ext wv X) => (show (X.cell? ⟨z, 0, none⟩ = some (.int .i64 0) ∧ X.cell? ⟨z, 1, none⟩ = some (.int .i64 0) ∧ X.cell? ⟨z, 2, none⟩ = some (.int .i64 0) ∧ X.cell? ⟨z, 3, none⟩ = some (.int .i64 0) ∧ X.cell? ⟨z, 4, none⟩ = some (.slice A7 l c7) ∧ X.cell? ⟨z, 5, none⟩ = some (.slice A8 s c8)) ∧
     X.cell? ⟨bb, ob + k * 4, none⟩ = some (.int .i64 xf) ∧ X.cell? ⟨bb, ob + k * 4 + 1, none⟩ = some (.int .i64 xu) ∧ X.cell? ⟨bb, ob + k * 4 + 2, none⟩ = some (.slice G1 g1 e1) ∧ X.cell? ⟨bb, ob + k * 4 + 3, none⟩ = some (.slice G2 g2 e2) from
    have h9 := (hX.block _ (lt_of_block HBX.out)).trans HBX.out
    ⟨⟨cof h9 (i := 0) rfl, cof h9 (i := 1) rfl, cof h9 (i := 2) rfl, cof h9 (i := 3) rfl, cof h9 (i := 4) rfl, cof h9 (i := 5) rfl⟩, (hX.cells.1 bb _ hbb).trans y0, (hX.cells.1 bb _ hbb).trans y1, (hX.cells.1 bb _ hbb).trans y2, (hX.cells.1 bb _ hbb).trans y3⟩))
   clear hx hrep hcell y0 y1 y2 y3 hr1 hr2 he1 he2 eg2
   have hS0 : (fun X : World => (X.cell? ⟨z, 0, none⟩ = some (.int .i64 0) ∧ X.cell? ⟨z, 1, none⟩ = some (.int .i64 0) ∧ X.cell? ⟨z, 2, none⟩ = some (.int .i64 0) ∧ X.cell? ⟨z, 3, none⟩ = some (.int .i64 0) ∧ X.cell? ⟨z, 4, none⟩ = some (.slice A7 l c7) ∧ X.cell? ⟨z, 5, none⟩ = some (.slice A8 s c8)) ∧ X.cell? ⟨bb, ob + k * 4, none⟩ = some (.int .i64 xf) ∧ X.cell? ⟨bb, ob + k * 4 + 1, none⟩ = some (.int .i64 xu) ∧ X.cell? ⟨bb, ob + k * 4 + 2, none⟩ = some (.slice G1 g1 e1) ∧ X.cell? ⟨bb, ob + k * 4 + 3, none⟩ = some (.slice G2 g2 e2)) wv.drew := HS0.out _ (Ext.refl _).drew
   refine wp_region_E (fun X : World => (X.cell? ⟨z, 0, none⟩ = some (.int .i64 0) ∧ X.cell? ⟨z, 1, none⟩ = some (.int .i64 0) ∧ X.cell? ⟨z, 2, none⟩ = some (.int .i64 0) ∧ X.cell? ⟨z, 3, none⟩ = some (.int .i64 0) ∧ X.cell? ⟨z, 4, none⟩ = some (.slice A7 l c7) ∧ X.cell? ⟨z, 5, none⟩ = some (.slice A8 s c8)) ∧ X.cell? ⟨bb, ob + k * 4, none⟩ = some (.int .i64 xf) ∧ X.cell? ⟨bb, ob + k * 4 + 1, none⟩ = some (.int .i64 xu) ∧ X.cell? ⟨bb, ob + k * 4 + 2, none⟩ = some (.slice G1 g1 e1) ∧ X.cell? ⟨bb, ob + k * 4 + 3, none⟩ = some (.slice G2 g2 e2)) (fun _ => True) (fun i => false) (by kernel_rfl) ?_
   refine wpE_tk 0 53 (.int .i64 (k : Int)) hS0 ?_ ?_
   ·intro w9 hT9; clear hT9; go_simp
   (try simp only [Act.put, ptA, ptB, ptC])
   refine wpE_tk 1 54 (.slice (some ⟨bb, ob, none⟩) n c) hS0 ?_ ?_
   ·intro w9 hT9; clear hT9; go_simp
   (try simp only [Act.put, ptA, ptB, ptC])
   refine wpE_tk 2 55 (.int .i64 (n : Int)) hS0 ?_ ?_
   ·intro w9 hT9; clear hT9; go_simp
   (try simp only [Act.put, ptA, ptB, ptC])
   refine wpE_tk 3 56 (.bool true) hS0 ?_ ?_
   ·intro w9 hT9; clear hT9; go_simp
   (try simp only [Act.put, ptA, ptB, ptC])
   refine wpE_tk 4 57 (.bool true) hS0 ?_ ?_
   ·intro w9 hT9; clear hT9; go_simp
   (try simp only [Act.put, ptA, ptB, ptC])
   refine wpE_tk 5 58 (.agg #[.int .i64 0, .int .i64 0, .int .i64 0, .int .i64 0, .slice A7 l c7, .slice A8 s c8]) hS0 ?_ ?_
   ·intro w9 hT9; obtain ⟨⟨y0, y1, y2, y3, y4, y5⟩, y6, y7, y8, y9⟩ := hT9; go_simp
   (try simp only [Act.put, ptA, ptB, ptC])
   refine wpE_tk 6 59 (.slice (some ⟨bb, ob, none⟩) n c) hS0 ?_ ?_
   ·intro w9 hT9; clear hT9; go_simp
   (try simp only [Act.put, ptA, ptB, ptC])
   refine wpE_tk 7 60 (.int .i64 (k : Int)) hS0 ?_ ?_
   ·intro w9 hT9; clear hT9; go_simp
   (try simp only [Act.put, ptA, ptB, ptC])
   refine wpE_tk 8 61 (.pointer (some ⟨bb, ob + k * 4, none⟩)) hS0 ?_ ?_
   ·intro w9 hT9; clear hT9; go_simp
   (try simp only [Act.put, ptA, ptB, ptC])
   refine wpE_tk 9 62 (.agg #[.int .i64 xf, .int .i64 xu, .slice G1 g1 e1, .slice G2 g2 e2]) hS0 ?_ ?_
   ·intro w9 hT9; obtain ⟨⟨y0, y1, y2, y3, y4, y5⟩, y6, y7, y8, y9⟩ := hT9; go_simp
   (try simp only [Act.put, ptA, ptB, ptC])
   refine wpE_tk 10 63 (.slice A0 m c0) hS0 ?_ ?_
   ·intro w9 hT9; clear hT9; go_simp
   (try simp only [Act.put, ptA, ptB, ptC])
   refine wpE_tk 11 64 (.int .i64 (m : Int)) hS0 ?_ ?_
   ·intro w9 hT9; clear hT9; go_simp
   (try simp only [Act.put, ptA, ptB, ptC])
   refine wpE_tk 12 65 (.int .i64 h) hS0 ?_ ?_
   ·intro w9 hT9; clear hT9; go_simp
   (try simp only [Act.put, ptA, ptB, ptC])
   refine wal (rs := [13]) (by kernel_rfl) (by simp) ?_
   refine AllE.cons rfl (fun K hK => ?_) AllE.nil
   simp only [List.getElem_toArray, List.getElem_cons_succ, List.getElem_cons_zero]
   go_simp
   go_at_call 182
   refine (HFT.out _).mono ?_
   rintro z9 wG ⟨rfl, hxG⟩
   have hcur : Ext wv wG := (Ext.refl _).drew.trans hxG
   simp only []
   refine hK.out _ _ ⟨fun _ => (HS0.out _ hcur), trivial⟩ (fun _ => ?_)
   clear hK K
   have hS0 := (HS0.out _ hcur)
   (try simp only [Act.put, ptA, ptB, ptC])
   refine wpE_tk 14 67 (.bool T) hS0 ?_ ?_
   ·intro w9 hT9; clear hT9; go_simp
   (try simp only [Act.put, ptA, ptB, ptC])
   refine wpE_done (by kernel_rfl) ?_ _
   go_wp2_with fail
   go_meet
   case rel => exact ⟨rfl, hcur⟩
  obtain ⟨rfl, hxc⟩ := hcut
  rename World => wc
  have HPC := Hd (HPG.out.mv hxc)
  clear HPG hxc
  cases T with
  | false =>
   have HRE := Hd (show r0 = (l, q, (s : Int)) by
    rw [← HFP.out]
    cases hb : body.drop k with
    | nil => rfl
    | cons x r =>
     have hxk : body[k]? = some x := by
      have := congrArg (fun l => l[0]?) hb
      simpa [List.getElem?_drop] using this
     have h9 : fitsP h q x l (s : Int) = false := by
      have h8 := HT.out
      rw [hxk] at h8
      exact h8
     simp only [fillP]
     rw [if_neg (by rw [h9]; simp)])
   obtain ⟨A6, c6, w6, hrun, hout6, hque6, hx6⟩ := HPC.out.done HZ.out.symm HOUT.out (by rw [List.length_map]; omega)
   rw [List.length_map] at hrun hout6
   have HRUN := Hd hrun
   have HREL := Hd (show VsO w M h notes body all (.slice A6 (pgs.length + 1) c6) (.slice A0 m c0) (.int .i64 (k : Int)) w6 from by
    obtain ⟨t1, t2, t3, t4⟩ := HSTEP.out
    rw [HRE.out] at t1 t2 t3 t4
    simp only [Int.toNat_natCast] at t1 t2 t3 t4
    rw [List.drop_drop, ← HKL.out] at t1 t2
    refine ⟨k, q.drop s, pgs ++ [((body.drop a).take l, q.take s)], by have := HE1.out; omega, rfl, by rw [List.map_append]; exact hout6, hque6, ?_, by rw [List.length_append, List.length_singleton]; omega, HLQ.out.drop s, hx6⟩
    rw [HEQ.out, t1, List.append_assoc]
    rfl)
   have b0 := cof HPC.out.box (i := 0) (u := .int .i64 0) rfl
   have b1 := cof HPC.out.box (i := 1) (u := .int .i64 0) rfl
   have b2 := cof HPC.out.box (i := 2) (u := .int .i64 0) rfl
   have b3 := cof HPC.out.box (i := 3) (u := .int .i64 0) rfl
   have b4 := cof HPC.out.box (i := 4) (u := .slice A7 l c7) rfl
   have b5 := cof HPC.out.box (i := 5) (u := .slice A8 s c8) rfl
   clear hrun hout6 hque6 hx6
   go_wp2_with (first | (at_builtin; refine wpList_append_run (s := .tmp 129) (x := .tmp 131) HRUN.out rfl rfl rfl rfl rfl ?_))
   go_roundw
   case rel => exact HREL.out
   case measure => simp only [slen]; omega
  | true =>
   obtain ⟨x, hx⟩ : ∃ x, body[k]? = some x := by
    cases hb : body[k]? with
    | none => have h9 := HT.out; rw [hb] at h9; cases h9
    | some x => exact ⟨x, rfl⟩
   have hfx : fitsP h q x l (s : Int) = true := by have h9 := HT.out; rw [hx] at h9; exact h9
   have hkn : k < n := by have := (List.getElem?_eq_some_iff.1 hx).1; have := HE1.out; omega
   have hkI : (k : Int) < (n : Int) := by omega
   have hkd : body.drop k = x :: body.drop (k + 1) := dwl _ hx
   obtain ⟨hstp1, hstp2⟩ := fillP_step (notes := notes) HFI.out hfx
   have HFP2 := Hd (show fillP h notes (body.drop (k + 1)) (q ++ notesOf notes x) (l + 1) (showP h (q ++ notesOf notes x) (l + 1) (s : Int)) = r0 by
    have h9 := HFP.out
    rw [hkd, fillP, if_pos hfx] at h9
    exact h9)
   have hlf3 : leftP notes (body.drop (k + 1)) (q ++ notesOf notes x) + 1 ≤ M := by rw [← leftP_cons, ← hkd]; exact hlf2
   have hqM3 : (q ++ notesOf notes x).length ≤ 100000 := by
    have : (q ++ notesOf notes x).length ≤ leftP notes (body.drop (k + 1)) (q ++ notesOf notes x) := by unfold leftP; omega
    omega
   have HSTP1 := Hd hstp1
   have HLX := Hd (HLQ.out.app (lnsB_notes HLN.out x))
   have HBT := Hd (show (body.drop a).take (l + 1) = (body.drop a).take l ++ [x] from take_one (by rw [List.getElem?_drop, ← HKL.out]; exact hx))
   have HNX := Hd (HNT0.out x (List.mem_of_getElem? hx))
   obtain ⟨bb, ob, cs, eA, hbb, _, hrep, hcell⟩ := Lay.row_at HR1.out hx
   subst eA
   obtain ⟨G1, g1, e1, G2, g2, e2, rfl, he1, he2, hr1, hr2⟩ := kLn_rep.1 hrep
   have y0 := hcell 0 _ rfl
   have y1 := hcell 1 _ rfl
   have y2 := hcell 2 _ rfl
   have y3 := hcell 3 _ rfl
   rw [kLn_sz] at y0 y1 y2 y3
   rw [Nat.add_zero] at y0
   have hxl := HLB.out x (List.mem_of_getElem? hx)
   have HXN := Hd (show notesOf notes x = notesUp notes x.nts from rfl)
   obtain ⟨xf, xu, xg, xn⟩ := x
   simp only at y0 y1 y2 y3 hr1 hr2 hxl HNX HXN
   have eg1 : g1 ≤ 1000000 := by have := Lay.row_len hr1; omega
   have EG2 := Hd (Lay.row_len hr2)
   have eg2 : g2 ≤ 1000000 := by have := EG2.out; omega
   have HXC := Hd HPC.out.ext
   have HCP := Hd (fun X (hX : Ext wc X) => rcopy_any _ X (⟨xf, xu, xg, xn⟩ : Ln) G1 G2 g1 g2 e1 e2 (Lay.row_ext hr1 (HXC.out.trans hX)) (Lay.row_ext hr2 (HXC.out.trans hX)) he1 he2 (by omega) (by omega))
   have HBX := Hd HPC.out.box
   have HRN := Hd hr2
   have HBC := Hd (fun X (hX : Ext w X) => (show X.cell? ⟨bb, ob + k * 4, none⟩ = some (.int .i64 xf) ∧ X.cell? ⟨bb, ob + k * 4 + 1, none⟩ = some (.int .i64 xu) ∧ X.cell? ⟨bb, ob + k * 4 + 2, none⟩ = some (.slice G1 g1 e1) ∧ X.cell? ⟨bb, ob + k * 4 + 3, none⟩ = some (.slice G2 g2 e2) from
    ⟨(hX.cells.1 bb _ hbb).trans y0, (hX.cells.1 bb _ hbb).trans y1, (hX.cells.1 bb _ hbb).trans y2, (hX.cells.1 bb _ hbb).trans y3⟩))
   have HS0 := Hd (fun X (hX : Ext wc X) => (show X.cell? ⟨z, 4, none⟩ = some (.slice A7 l c7) ∧ X.cell? ⟨bb, ob + k * 4, none⟩ = some (.int .i64 xf) ∧ X.cell? ⟨bb, ob + k * 4 + 1, none⟩ = some (.int .i64 xu) ∧ X.cell? ⟨bb, ob + k * 4 + 2, none⟩ = some (.slice G1 g1 e1) ∧ X.cell? ⟨bb, ob + k * 4 + 3, none⟩ = some (.slice G2 g2 e2) from
    ⟨cof ((hX.block _ (lt_of_block HBX.out)).trans HBX.out) (i := 4) rfl, HBC.out X (HXC.out.trans hX)⟩))
   have HS9 := Hd (fun (w9 : World) (hb : w9.heap[z]? = some (.cells #[.int .i64 0, .int .i64 0, .int .i64 0, .int .i64 0, .slice A7 l c7, .slice A8 s c8] 84 (0, 0))) (hx9 : Ext w w9) => (show w9.cell? ⟨z, 4, none⟩ = some (.slice A7 l c7) ∧ w9.cell? ⟨bb, ob + k * 4, none⟩ = some (.int .i64 xf) ∧ w9.cell? ⟨bb, ob + k * 4 + 1, none⟩ = some (.int .i64 xu) ∧ w9.cell? ⟨bb, ob + k * 4 + 2, none⟩ = some (.slice G1 g1 e1) ∧ w9.cell? ⟨bb, ob + k * 4 + 3, none⟩ = some (.slice G2 g2 e2) from
    ⟨cof hb (i := 4) rfl, HBC.out w9 hx9⟩))
   have HLT := Hd (fun X (hX : Ext wc X) (B1 B2 : Option Addr) (m1 d1 m2 d2 : Nat) (h1 : m1 ≤ d1) (h2 : m2 ≤ d2) (k1 : kInt.row X (fun j => wc.heap.size ≤ j) B1 m1 xg) (k2 : kInt.row X (fun j => wc.heap.size ≤ j) B2 m2 xn) =>
    HPC.out.line hX (x := (⟨xf, xu, xg, xn⟩ : Ln)) (cs := #[.int .i64 xf, .int .i64 xu, .slice B1 m1 d1, .slice B2 m2 d2]) (kLn_rep.2 ⟨B1, m1, d1, B2, m2, d2, rfl, h1, h2, k1, k2⟩) (by rw [hn7]; omega))
   clear hrep hcell y0 y1 y2 y3 hr1 hr2 he1 he2 hxl hkd
   go_upto_region 13 with (fail)
   have hS0 : (fun X : World => X.cell? ⟨z, 4, none⟩ = some (.slice A7 l c7) ∧ X.cell? ⟨bb, ob + k * 4, none⟩ = some (.int .i64 xf) ∧ X.cell? ⟨bb, ob + k * 4 + 1, none⟩ = some (.int .i64 xu) ∧ X.cell? ⟨bb, ob + k * 4 + 2, none⟩ = some (.slice G1 g1 e1) ∧ X.cell? ⟨bb, ob + k * 4 + 3, none⟩ = some (.slice G2 g2 e2)) wc.drew := HS0.out _ (Ext.refl _).drew
   refine wp_region_E (fun X : World => X.cell? ⟨z, 4, none⟩ = some (.slice A7 l c7) ∧ X.cell? ⟨bb, ob + k * 4, none⟩ = some (.int .i64 xf) ∧ X.cell? ⟨bb, ob + k * 4 + 1, none⟩ = some (.int .i64 xu) ∧ X.cell? ⟨bb, ob + k * 4 + 2, none⟩ = some (.slice G1 g1 e1) ∧ X.cell? ⟨bb, ob + k * 4 + 3, none⟩ = some (.slice G2 g2 e2)) (fun _ => True) (fun i => i == 10) (by kernel_rfl) ?_
   refine wpE_tk 0 68 (.pointer (some ⟨z, 4, none⟩)) hS0 ?_ ?_
   ·intro w9 hT9; clear hT9; go_simp
   (try simp only [Act.put, ptA, ptB, ptC])
   refine wpE_tk 1 69 (.slice A7 l c7) hS0 ?_ ?_
   ·intro w9 hT9; obtain ⟨y0, y1, y2, y3, y4⟩ := hT9; go_simp
   (try simp only [Act.put, ptA, ptB, ptC])
   refine wpE_tk 2 70 (.slice (some ⟨bb, ob, none⟩) n c) hS0 ?_ ?_
   ·intro w9 hT9; clear hT9; go_simp
   (try simp only [Act.put, ptA, ptB, ptC])
   refine wpE_tk 3 71 (.int .i64 (k : Int)) hS0 ?_ ?_
   ·intro w9 hT9; clear hT9; go_simp
   (try simp only [Act.put, ptA, ptB, ptC])
   refine wpE_tk 4 72 (.pointer (some ⟨bb, ob + k * 4, none⟩)) hS0 ?_ ?_
   ·intro w9 hT9; clear hT9; go_simp
   (try simp only [Act.put, ptA, ptB, ptC])
   refine wpE_tk 5 73 (.agg #[.int .i64 xf, .int .i64 xu, .slice G1 g1 e1, .slice G2 g2 e2]) hS0 ?_ ?_
   ·intro w9 hT9; obtain ⟨y0, y1, y2, y3, y4⟩ := hT9; go_simp
   (try simp only [Act.put, ptA, ptB, ptC])
   refine wal (rs := [6]) (by kernel_rfl) (by simp) ?_
   refine AllE.cons rfl (fun K hK => ?_) AllE.nil
   simp only [List.getElem_toArray, List.getElem_cons_succ, List.getElem_cons_zero]
   go_simp
   go_at_call 181
   refine (HCP.out _ (Ext.refl _).drew).mono ?_
   rintro z9 wG ⟨v9, rfl, hv9, hxG⟩
   obtain ⟨B1, m1, d1, B2, m2, d2, rfl, hm1, hm2, hr1, hr2⟩ := hv9
   have hcur : Ext wc wG := (Ext.refl _).drew.trans hxG
   simp only []
   refine hK.out _ _ ⟨fun _ => (HS0.out _ hcur), trivial⟩ (fun _ => ?_)
   clear hK K
   have hS0 := (HS0.out _ hcur)
   (try simp only [Act.put, ptA, ptB, ptC])
   refine wal (rs := [7]) (by kernel_rfl) (by simp) ?_
   refine AllE.cons rfl (fun K hK => ?_) AllE.nil
   simp only [List.getElem_toArray, List.getElem_cons_succ, List.getElem_cons_zero]
   go_simp
   refine hK.out _ _ ⟨fun _ => (HS0.out _ (hcur.alloc (.cells #[.int .i64 xf, .int .i64 xu, .slice B1 m1 d1, .slice B2 m2 d2] 86))), trivial⟩ (fun _ => ?_)
   clear hK K
   have hS0 := (HS0.out _ (hcur.alloc (.cells #[.int .i64 xf, .int .i64 xu, .slice B1 m1 d1, .slice B2 m2 d2] 86)))
   (try simp only [Act.put, ptA, ptB, ptC])
   refine wal (rs := [8]) (by kernel_rfl) (by simp) ?_
   refine AllE.cons rfl (fun K hK => ?_) AllE.nil
   simp only [List.getElem_toArray, List.getElem_cons_succ, List.getElem_cons_zero]
   obtain ⟨A9, c9, w9, hrun, hb9, hx9, hp9⟩ := HLT.out wG hcur B1 B2 m1 d1 m2 d2 hm1 hm2 hr1 hr2
   have HC9 := Hd (HS9.out w9 hb9 hx9)
   have HB9 := Hd hb9
   have HP9 := Hd hp9
   clear hb9 hp9 hx9 hr1 hr2
   refine step_append_tm (s := .tmp 69) (x := .tmp 75) hrun rfl rfl rfl rfl rfl ?_
   refine hK.out _ _ ⟨fun _ => HC9.out, trivial⟩ (fun _ => ?_)
   clear hK K
   have hS0 := HC9.out
   (try simp only [Act.put, ptA, ptB, ptC])
   refine wpE_tk 9 77 (.pointer (some ⟨z, 4, none⟩)) hS0 ?_ ?_
   ·intro w9 hT9; clear hT9; go_simp
   (try simp only [Act.put, ptA, ptB, ptC])
   refine wal (rs := [10]) (by kernel_rfl) (by simp) ?_
   refine AllE.cons rfl (fun K hK => ?_) AllE.nil
   simp only [List.getElem_toArray, List.getElem_cons_succ, List.getElem_cons_zero]
   have z5 := HC9.out.1
   have z6 := fof HB9.out 4
   go_simp
   refine hK.out _ _ ⟨fun h => absurd h (by simp), trivial⟩ (fun _ => ?_)
   clear hK K
   (try simp only [Act.put, ptA, ptB, ptC])
   refine wpE_done (by kernel_rfl) ?_ _
   go_wp2_with fail
   rw [hn7] at HP9
   obtain ⟨W9, hW9⟩ : ∃ W9, w9.setCell ⟨z, 4, none⟩ (.slice A9 (l + 1) c9) = W9 := ⟨_, rfl⟩
   rw [hn7] at hrun
   try rw [hn7]
   rw [hW9]
   rw [hW9, ← HBT.out] at HP9
   clear HS0 HS9 HLT HCP HC9 HB9 hrun hW9
   go_loopw [10, 13] (fun s10 s13 w' => VsC w wr z (.slice Aq ql cq) ((body.drop a).take (l + 1)) (q.take s) (q.drop s) notes xn s10 s13 w') (fun _ s13 _ => toM g2 s13)
   case atStart => exact ⟨0, _, _, by omega, rfl, by
    have h9 := HP9.out
    simpa [notesUp] using h9⟩
   clear HP9
   obtain ⟨j, Bv, Nv, hj, rfl, hpg0⟩ := hrel
   rename World => wj
   rw [← EG2.out] at hj
   obtain ⟨u, hu⟩ : ∃ u, (q.drop s ++ notesUp notes (xn.take j)).length = u := ⟨_, rfl⟩
   have hul : u ≤ 100000 := by
    rw [← hu, List.length_append, hmq]
    have := notesUp_le notes xn j
    rw [List.length_append, HXN.out] at hqM3
    omega
   obtain ⟨A0, c0, rfl, hcu⟩ := hpg0.queV hu
   have HPJ := Hd hpg0
   obtain ⟨j0, j1, j2, j3⟩ := HBC.out _ hpg0.ext
   clear hpg0
   by_cases hjl : j < g2
   case pos =>
    have hJ : (j : Int) < (g2 : Int) := by omega
    obtain ⟨y, hy⟩ : ∃ y, xn[j]? = some y := ⟨_, List.getElem?_eq_getElem (by have := EG2.out; omega)⟩
    have hyb := HNX.out y (List.mem_of_getElem? hy)
    obtain ⟨yn, rfl⟩ : ∃ yn : Nat, y = (yn : Int) := ⟨y.toNat, by omega⟩
    obtain ⟨b2, o2, eG, hb2, _, hc2⟩ := int_at (Lay.row_ext HRN.out HPJ.out.ext) hy
    subst eG
    obtain ⟨nl, hnl⟩ : ∃ nl, notes[yn]? = some nl := ⟨_, List.getElem?_eq_getElem (by omega)⟩
    obtain ⟨b3, o3, cs3, eN, hb3, _, hrep3, hcell3⟩ := Lay.row_at HR2.out hnl
    subst eN
    obtain ⟨A3, n3, c3, rfl, hn3, hr3⟩ := hrep3
    have x3 := hcell3 0 _ rfl
    rw [show kLs.sz = 1 from rfl, Nat.mul_one, Nat.add_zero] at x3
    have x3' := (HPJ.out.ext.cells.1 b3 _ hb3).trans x3
    have hyI : (yn : Int) < (n' : Int) := by have := HE2.out; omega
    have hn3l : n3 ≤ nl.length ∧ nl.length ≤ n3 := by have := Lay.row_len hr3; omega
    have HNS := Hd (notesUp_succ notes xn hy)
    have hq9 : u + n3 ≤ 100000000 := by
     have h9 := notesUp_le notes xn (j + 1)
     rw [HNS.out, List.length_append] at h9
     rw [List.length_append, HXN.out] at hqM3
     rw [Int.toNat_natCast, hnl] at h9
     simp only [Option.getD_some] at h9
     omega
    obtain ⟨A4, c4, w4, hrun4, hx4, hp4⟩ := HPJ.out.more (Lay.row_ext (Lay.row_mono (Q := fun j => j < w.heap.size) hr3 fun j _ hl => hl) HPJ.out.ext) c3 (by rw [hu]; exact hq9)
    rw [hu] at hrun4 hp4
    have HRUN4 := Hd hrun4
    have HREL := Hd (show VsC w wr z (.slice Aq ql cq) ((body.drop a).take (l + 1)) (q.take s) (q.drop s) notes xn (.slice A4 (u + n3) c4) (.int .i64 ((j : Int) + 1)) w4 from ⟨j + 1, _, _, by have := EG2.out; omega, by simp, by
     rw [HNS.out, Int.toNat_natCast, hnl, ← List.append_assoc]
     exact hp4⟩)
    clear hy hyb hnl hcell3 hr3 x3 hrun4 hx4 hp4 hq9 hn3l
    go_wp2_with (first | (at_builtin; refine wpList_append_run (s := .tmp 88) (x := .tmp 99) HRUN4.out rfl rfl rfl rfl rfl ?_))
    go_roundw
    case rel => exact HREL.out
    case measure => simp only [toM]; omega
   obtain rfl : j = g2 := by omega
   have hnj : ¬ ((j : Int) < (j : Int)) := by omega
   have HPD := Hd (show PgW w wr z (.slice Aq ql cq) ((body.drop a).take (l + 1)) ((q ++ notesUp notes xn).take s) ((q ++ notesUp notes xn).drop s) (.slice A0 u c0) Bv Nv wj by
    have h9 := HPJ.out
    rw [EG2.out, List.take_length] at h9
    rw [take_more hsq, drop_more hsq]
    exact h9)
   go_wp2_with fail
   rw [HXN.out] at HFP2 hlf3 hqM3 HSTP1 HLX hstp2
   obtain ⟨Q, hQ⟩ : ∃ Q, q ++ notesUp notes xn = Q := ⟨_, rfl⟩
   rw [hQ] at HPD HFP2 hlf3 hqM3 HSTP1 HLX hstp2
   clear hQ HPJ j0 j1 j2 j3 HNX HLQ hu hul hcu
   go_loopw [10] (fun s10 w' => VsD w wr z (.slice Aq ql cq) h ((body.drop a).take (l + 1)) Q l s s10 w') (fun s10 _ => slen s10)
   case atStart => exact ⟨s, _, _, Nat.le_refl _, hstp2, HPD.out⟩
   clear HPD
   obtain ⟨i, Bv, Nv, hsi, hiP, hpg0⟩ := hrel
   rename World => wv
   have hiQ : i ≤ Q.length := by have := HSTP1.out.le; omega
   have hn8 : (Q.take i).length = i := by rw [List.length_take]; omega
   have hn7' : ((body.drop a).take (l + 1)).length = l + 1 := by rw [HBT.out, List.length_append, hn7]; rfl
   obtain ⟨m, hmq⟩ : ∃ m, (Q.drop i).length = m := ⟨_, rfl⟩
   have hms1 : m ≤ Q.length - i := by rw [← hmq, List.length_drop]; exact Nat.le_refl _
   have hms2 : Q.length - i ≤ m := by rw [← hmq, List.length_drop]; exact Nat.le_refl _
   obtain ⟨A8, c8, rfl, hc8⟩ := hpg0.noteV hn8
   obtain ⟨A7, c7, rfl, hc7⟩ := hpg0.bodyV hn7'
   obtain ⟨A0, c0, rfl, hcm⟩ := hpg0.queV hmq
   have HPG := Hd hpg0
   clear hpg0
   have HSS := Hd (show_step (h := h) (q' := Q) hsi hiP)
   obtain ⟨T, hT⟩ : ∃ T, decide (0 < m ∧ (l : Int) + i + 3 ≤ h) = T := ⟨_, rfl⟩
   have HT := Hd hT
   clear hT
   go_upto_region 18 with (fail)
   go_cut [115] (fun s115 wx => s115 = .bool T ∧ Ext wv wx)
   case first =>
    by_cases hm0 : 0 < m
    case neg =>
     have hm0' : ¬ (0 : Int) < (m : Int) := by omega
     have hm0b : decide ((0 : Int) < (m : Int)) = false := decide_eq_false hm0'
     have hTf : T = false := by rw [← HT.out]; exact decide_eq_false fun e => by omega
     subst hTf
     go_quiet (fail)
     go_wp2
     go_meet
     case rel => exact ⟨rfl, (Ext.refl _).drewN _⟩
    have hm0' : (0 : Int) < (m : Int) := by omega
    obtain ⟨mn, hmn⟩ : ∃ mn, min (i : Int) 1 = mn := ⟨_, rfl⟩
    obtain ⟨us, hus⟩ : ∃ us, usedN (l + 1) i = us := ⟨_, rfl⟩
    have husb : 0 ≤ us ∧ us ≤ 300000 := by rw [← hus]; unfold usedN; omega
    have hmnb : 0 ≤ mn ∧ mn ≤ 1 := by omega
    have HUS := Hd (fun X => (show Calls Tryz.prog 183 #[.agg #[.int .i64 0, .int .i64 0, .int .i64 0, .int .i64 0, .slice A7 (l + 1) c7, .slice A8 i c8]] X (fun e w' => e = .returned (.int .i64 us) ∧ Ext X w') from by rw [← hus]; exact rused_any X 0 0 0 0 A7 A8 (l + 1) c7 i c8 (by omega) (by omega)))
    have HTE := Hd (show decide (us + 2 - mn ≤ h) = T by
     rw [← HT.out]
     refine decide_eq_decide.2 ?_
     rw [← hus, ← hmn]
     unfold usedN
     omega)
    obtain ⟨husb1, husb2⟩ := husb
    obtain ⟨hmnb1, hmnb2⟩ := hmnb
    have i1 : IntKind.i64.wrap (us + 2) = us + 2 := IntWalk.i64_in _ (by omega)
    have i2 : IntKind.i64.wrap (us + 2 - mn) = us + 2 - mn := IntWalk.i64_in _ (by omega)
    have HBX := Hd HPG.out.box
    have HS0 := Hd (fun X (hX : Ext wv X) => (show X.cell? ⟨z, 0, none⟩ = some (.int .i64 0) ∧ X.cell? ⟨z, 1, none⟩ = some (.int .i64 0) ∧ X.cell? ⟨z, 2, none⟩ = some (.int .i64 0) ∧ X.cell? ⟨z, 3, none⟩ = some (.int .i64 0) ∧ X.cell? ⟨z, 4, none⟩ = some (.slice A7 (l + 1) c7) ∧ X.cell? ⟨z, 5, none⟩ = some (.slice A8 i c8) from
     have h9 := (hX.block _ (lt_of_block HBX.out)).trans HBX.out
     ⟨cof h9 (i := 0) rfl, cof h9 (i := 1) rfl, cof h9 (i := 2) rfl, cof h9 (i := 3) rfl, cof h9 (i := 4) rfl, cof h9 (i := 5) rfl⟩))
    clear hus
    have hS0 : (fun X : World => X.cell? ⟨z, 0, none⟩ = some (.int .i64 0) ∧ X.cell? ⟨z, 1, none⟩ = some (.int .i64 0) ∧ X.cell? ⟨z, 2, none⟩ = some (.int .i64 0) ∧ X.cell? ⟨z, 3, none⟩ = some (.int .i64 0) ∧ X.cell? ⟨z, 4, none⟩ = some (.slice A7 (l + 1) c7) ∧ X.cell? ⟨z, 5, none⟩ = some (.slice A8 i c8)) wv.drew := HS0.out _ (Ext.refl _).drew
    refine wp_region_E (fun X : World => X.cell? ⟨z, 0, none⟩ = some (.int .i64 0) ∧ X.cell? ⟨z, 1, none⟩ = some (.int .i64 0) ∧ X.cell? ⟨z, 2, none⟩ = some (.int .i64 0) ∧ X.cell? ⟨z, 3, none⟩ = some (.int .i64 0) ∧ X.cell? ⟨z, 4, none⟩ = some (.slice A7 (l + 1) c7) ∧ X.cell? ⟨z, 5, none⟩ = some (.slice A8 i c8)) (fun _ => True) (fun i => false) (by kernel_rfl) ?_
    refine wpE_tk 0 101 (.slice A0 m c0) hS0 ?_ ?_
    ·intro w9 hT9; clear hT9; go_simp
    (try simp only [Act.put, ptA, ptB, ptC])
    refine wpE_tk 1 102 (.int .i64 (m : Int)) hS0 ?_ ?_
    ·intro w9 hT9; clear hT9; go_simp
    (try simp only [Act.put, ptA, ptB, ptC])
    refine wpE_tk 2 103 (.bool true) hS0 ?_ ?_
    ·intro w9 hT9; clear hT9; go_simp
    (try simp only [Act.put, ptA, ptB, ptC])
    refine wpE_tk 3 104 (.bool true) hS0 ?_ ?_
    ·intro w9 hT9; clear hT9; go_simp
    (try simp only [Act.put, ptA, ptB, ptC])
    refine wpE_tk 4 105 (.agg #[.int .i64 0, .int .i64 0, .int .i64 0, .int .i64 0, .slice A7 (l + 1) c7, .slice A8 i c8]) hS0 ?_ ?_
    ·intro w9 hT9; obtain ⟨y0, y1, y2, y3, y4, y5⟩ := hT9; go_simp
    (try simp only [Act.put, ptA, ptB, ptC])
    refine wpE_tk 7 108 (.pointer (some ⟨z, 5, none⟩)) hS0 ?_ ?_
    ·intro w9 hT9; clear hT9; go_simp
    (try simp only [Act.put, ptA, ptB, ptC])
    refine wpE_tk 8 109 (.slice A8 i c8) hS0 ?_ ?_
    ·intro w9 hT9; obtain ⟨y0, y1, y2, y3, y4, y5⟩ := hT9; go_simp
    (try simp only [Act.put, ptA, ptB, ptC])
    refine wpE_tk 9 110 (.int .i64 (i : Int)) hS0 ?_ ?_
    ·intro w9 hT9; clear hT9; go_simp
    (try simp only [Act.put, ptA, ptB, ptC])
    refine wpE_tk 10 111 (.int .i64 mn) hS0 ?_ ?_
    ·intro w9 hT9; clear hT9; go_simp
    (try simp only [Act.put, ptA, ptB, ptC])
    refine wpE_tk 12 113 (.int .i64 h) hS0 ?_ ?_
    ·intro w9 hT9; clear hT9; go_simp
    (try simp only [Act.put, ptA, ptB, ptC])
    refine wal (rs := [5]) (by kernel_rfl) (by simp) ?_
    refine AllE.cons rfl (fun K hK => ?_) AllE.nil
    simp only [List.getElem_toArray, List.getElem_cons_succ, List.getElem_cons_zero]
    go_simp
    go_at_call 183
    refine (HUS.out _).mono ?_
    rintro z9 wG ⟨rfl, hxG⟩
    have hcur : Ext wv wG := (Ext.refl _).drew.trans hxG
    simp only []
    refine hK.out _ _ ⟨fun _ => (HS0.out _ hcur), trivial⟩ (fun _ => ?_)
    clear hK K
    have hS0 := (HS0.out _ hcur)
    (try simp only [Act.put, ptA, ptB, ptC])
    refine wpE_tk 6 107 (.int .i64 (us + 2)) hS0 ?_ ?_
    ·intro w9 hT9; clear hT9; go_simp
    (try simp only [Act.put, ptA, ptB, ptC])
    refine wpE_tk 11 112 (.int .i64 (us + 2 - mn)) hS0 ?_ ?_
    ·intro w9 hT9; clear hT9; go_simp
    (try simp only [Act.put, ptA, ptB, ptC])
    refine wpE_tk 13 114 (.bool T) hS0 ?_ ?_
    ·intro w9 hT9; clear hT9; have HTE' := HTE.out; go_simp
    (try simp only [Act.put, ptA, ptB, ptC])
    refine wpE_tk 14 115 (.bool T) hS0 ?_ ?_
    ·intro w9 hT9; clear hT9; go_simp
    (try simp only [Act.put, ptA, ptB, ptC])
    refine wpE_done (by kernel_rfl) ?_ _
    go_wp2_with fail
    go_meet
    case rel => exact ⟨rfl, hcur⟩
   obtain ⟨rfl, hxc⟩ := hcut
   rename World => wd
   have HPG2 := Hd (HPG.out.mv hxc)
   clear HPG hxc
   cases T with
   | true =>
    obtain ⟨hm0, hl3⟩ := of_decide_eq_true HT.out
    have hst3 := HSS.out.1 ⟨by omega, hl3⟩
    have HLQ := Hd HLX.out
    obtain ⟨x, hx⟩ : ∃ x, Q[i]? = some x := ⟨_, List.getElem?_eq_getElem (by omega)⟩
    have hx0 : (Q.drop i)[0]? = some x := by rw [List.getElem?_drop]; exact hx
    obtain ⟨g, o, cs, ea, hgl, _, hrep, hcell⟩ := Lay.row_at (Lay.que_row HPG2.out.qo) hx0
    subst ea
    obtain ⟨G1, g1, e1, G2, g2, e2, rfl, he1, he2, hr1, hr2⟩ := kLn_rep.1 hrep
    have y0 := hcell 0 _ rfl
    have y1 := hcell 1 _ rfl
    have y2 := hcell 2 _ rfl
    have y3 := hcell 3 _ rfl
    rw [Nat.zero_mul, Nat.add_zero] at y0 y1 y2 y3
    try rw [Nat.add_zero] at y0
    have hxl := HLQ.out x (List.mem_of_getElem? hx)
    obtain ⟨xf, xu, xg, xn⟩ := x
    simp only at y0 y1 y2 y3 hr1 hr2 hxl
    have eg1 : g1 ≤ 1000000 := by have := Lay.row_len hr1; omega
    have eg2 : g2 ≤ 1000000 := by have := Lay.row_len hr2; omega
    have HCP := Hd (fun X (hX : Ext wd X) => rcopy_any _ X (⟨xf, xu, xg, xn⟩ : Ln) G1 G2 g1 g2 e1 e2 (Lay.row_ext hr1 hX) (Lay.row_ext hr2 hX) he1 he2 (by omega) (by omega))
    have HBX := Hd HPG2.out.box
    have HS0 := Hd (fun X (hX : Ext wd X) => (show X.cell? ⟨z, 5, none⟩ = some (.slice A8 i c8) ∧ X.cell? ⟨g, o, none⟩ = some (.int .i64 xf) ∧ X.cell? ⟨g, o + 1, none⟩ = some (.int .i64 xu) ∧ X.cell? ⟨g, o + 2, none⟩ = some (.slice G1 g1 e1) ∧ X.cell? ⟨g, o + 3, none⟩ = some (.slice G2 g2 e2) from
     ⟨cof ((hX.block _ (lt_of_block HBX.out)).trans HBX.out) (i := 5) rfl, (hX.cells.1 g _ hgl).trans y0, (hX.cells.1 g _ hgl).trans y1, (hX.cells.1 g _ hgl).trans y2, (hX.cells.1 g _ hgl).trans y3⟩))
    have hng : (Value.slice A8 i c8).ownBlock ≠ some g := fun e => HPG2.out.dnq g e rfl
    have HS9 := Hd (fun X (hX : Ext wd X) (w9 : World) (hb : w9.heap[z]? = some (.cells #[.int .i64 0, .int .i64 0, .int .i64 0, .int .i64 0, .slice A7 (l + 1) c7, .slice A8 i c8] 84 (0, 0))) (hk : ∀ j, j < X.heap.size → (Value.slice A8 i c8).ownBlock ≠ some j → w9.heap[j]? = X.heap[j]?) => (show w9.cell? ⟨z, 5, none⟩ = some (.slice A8 i c8) ∧ w9.cell? ⟨g, o, none⟩ = some (.int .i64 xf) ∧ w9.cell? ⟨g, o + 1, none⟩ = some (.int .i64 xu) ∧ w9.cell? ⟨g, o + 2, none⟩ = some (.slice G1 g1 e1) ∧ w9.cell? ⟨g, o + 3, none⟩ = some (.slice G2 g2 e2) from
     have h9 := HS0.out X hX
     have h8 : w9.heap[g]? = X.heap[g]? := hk g (Nat.lt_of_lt_of_le hgl hX.lt) hng
     ⟨cof hb (i := 5) rfl, (World.cell?_of_block (a := ⟨g, _, none⟩) h8).trans h9.2.1, (World.cell?_of_block (a := ⟨g, _, none⟩) h8).trans h9.2.2.1, (World.cell?_of_block (a := ⟨g, _, none⟩) h8).trans h9.2.2.2.1, (World.cell?_of_block (a := ⟨g, _, none⟩) h8).trans h9.2.2.2.2⟩))
    obtain ⟨A5, c5, hq5, ho5, hcq⟩ := vq_cut HPG2.out.qo hmq hcm (by omega)
    have HQ5 := Hd (fun (_ : Unit) => hq5)
    have HNT := Hd (fun X (hX : Ext wd X) (B1 B2 : Option Addr) (m1 d1 m2 d2 : Nat) (h1 : m1 ≤ d1) (h2 : m2 ≤ d2) (k1 : kInt.row X (fun j => wd.heap.size ≤ j) B1 m1 xg) (k2 : kInt.row X (fun j => wd.heap.size ≤ j) B2 m2 xn) =>
     HPG2.out.note hX (x := (⟨xf, xu, xg, xn⟩ : Ln)) (cs := #[.int .i64 xf, .int .i64 xu, .slice B1 m1 d1, .slice B2 m2 d2]) (kLn_rep.2 ⟨B1, m1, d1, B2, m2, d2, rfl, h1, h2, k1, k2⟩) (by rw [hn8]; omega) (qv' := .slice A5 (m - 1) c5) (Q' := Q.drop (i + 1)) (fun Y hY => HQ5.out () Y hY) ho5)
    clear hx0 hgl hrep hcell y0 y1 y2 y3 hr1 hr2 hng hq5 ho5 he1 he2 hxl
    go_upto_region 19 with (fail)
    have hS0 : (fun X : World => X.cell? ⟨z, 5, none⟩ = some (.slice A8 i c8) ∧ X.cell? ⟨g, o, none⟩ = some (.int .i64 xf) ∧ X.cell? ⟨g, o + 1, none⟩ = some (.int .i64 xu) ∧ X.cell? ⟨g, o + 2, none⟩ = some (.slice G1 g1 e1) ∧ X.cell? ⟨g, o + 3, none⟩ = some (.slice G2 g2 e2)) wd.drew := HS0.out _ (Ext.refl _).drew
    refine wp_region_E (fun X : World => X.cell? ⟨z, 5, none⟩ = some (.slice A8 i c8) ∧ X.cell? ⟨g, o, none⟩ = some (.int .i64 xf) ∧ X.cell? ⟨g, o + 1, none⟩ = some (.int .i64 xu) ∧ X.cell? ⟨g, o + 2, none⟩ = some (.slice G1 g1 e1) ∧ X.cell? ⟨g, o + 3, none⟩ = some (.slice G2 g2 e2)) (fun _ => True) (fun i => i == 9) (by kernel_rfl) ?_
    refine wpE_tk 0 116 (.pointer (some ⟨z, 5, none⟩)) hS0 ?_ ?_
    ·intro w9 hT9; clear hT9; go_simp
    (try simp only [Act.put, ptA, ptB, ptC])
    refine wpE_tk 1 117 (.slice A8 i c8) hS0 ?_ ?_
    ·intro w9 hT9; obtain ⟨y0, y1, y2, y3, y4⟩ := hT9; go_simp
    (try simp only [Act.put, ptA, ptB, ptC])
    refine wpE_tk 2 118 (.slice (some ⟨g, o, none⟩) m c0) hS0 ?_ ?_
    ·intro w9 hT9; clear hT9; go_simp
    (try simp only [Act.put, ptA, ptB, ptC])
    refine wpE_tk 3 119 (.pointer (some ⟨g, o, none⟩)) hS0 ?_ ?_
    ·intro w9 hT9; clear hT9; go_simp
    (try simp only [Act.put, ptA, ptB, ptC])
    refine wpE_tk 4 120 (.agg #[.int .i64 xf, .int .i64 xu, .slice G1 g1 e1, .slice G2 g2 e2]) hS0 ?_ ?_
    ·intro w9 hT9; obtain ⟨y0, y1, y2, y3, y4⟩ := hT9; go_simp
    (try simp only [Act.put, ptA, ptB, ptC])
    refine wal (rs := [5]) (by kernel_rfl) (by simp) ?_
    refine AllE.cons rfl (fun K hK => ?_) AllE.nil
    simp only [List.getElem_toArray, List.getElem_cons_succ, List.getElem_cons_zero]
    go_simp
    go_at_call 181
    refine (HCP.out _ (Ext.refl _).drew).mono ?_
    rintro z9 wG ⟨v9, rfl, hv9, hxG⟩
    obtain ⟨B1, m1, d1, B2, m2, d2, rfl, hm1, hm2, hr1, hr2⟩ := hv9
    have hcur : Ext wd wG := (Ext.refl _).drew.trans hxG
    simp only []
    refine hK.out _ _ ⟨fun _ => (HS0.out _ hcur), trivial⟩ (fun _ => ?_)
    clear hK K
    have hS0 := (HS0.out _ hcur)
    (try simp only [Act.put, ptA, ptB, ptC])
    refine wal (rs := [6]) (by kernel_rfl) (by simp) ?_
    refine AllE.cons rfl (fun K hK => ?_) AllE.nil
    simp only [List.getElem_toArray, List.getElem_cons_succ, List.getElem_cons_zero]
    go_simp
    refine hK.out _ _ ⟨fun _ => (HS0.out _ (hcur.alloc (.cells #[.int .i64 xf, .int .i64 xu, .slice B1 m1 d1, .slice B2 m2 d2] 86))), trivial⟩ (fun _ => ?_)
    clear hK K
    have hS0 := (HS0.out _ (hcur.alloc (.cells #[.int .i64 xf, .int .i64 xu, .slice B1 m1 d1, .slice B2 m2 d2] 86)))
    (try simp only [Act.put, ptA, ptB, ptC])
    refine wal (rs := [7]) (by kernel_rfl) (by simp) ?_
    refine AllE.cons rfl (fun K hK => ?_) AllE.nil
    simp only [List.getElem_toArray, List.getElem_cons_succ, List.getElem_cons_zero]
    obtain ⟨A9, c9, w9, hrun, hb9, hx9, hk9, hp9⟩ := HNT.out wG hcur B1 B2 m1 d1 m2 d2 hm1 hm2 hr1 hr2
    have HC9 := Hd (HS9.out wG hcur w9 hb9 hk9)
    have HB9 := Hd hb9
    have HP9 := Hd hp9
    clear hb9 hk9 hp9 hx9 hr1 hr2
    refine step_append_tm (s := .tmp 117) (x := .tmp 122) hrun rfl rfl rfl rfl rfl ?_
    refine hK.out _ _ ⟨fun _ => HC9.out, trivial⟩ (fun _ => ?_)
    clear hK K
    have hS0 := HC9.out
    (try simp only [Act.put, ptA, ptB, ptC])
    refine wpE_tk 8 124 (.pointer (some ⟨z, 5, none⟩)) hS0 ?_ ?_
    ·intro w9 hT9; clear hT9; go_simp
    (try simp only [Act.put, ptA, ptB, ptC])
    refine wal (rs := [9]) (by kernel_rfl) (by simp) ?_
    refine AllE.cons rfl (fun K hK => ?_) AllE.nil
    simp only [List.getElem_toArray, List.getElem_cons_succ, List.getElem_cons_zero]
    have z5 := HC9.out.1
    have z6 := fof HB9.out 5
    go_simp
    refine hK.out _ _ ⟨fun h => absurd h (by simp), trivial⟩ (fun _ => ?_)
    clear hK K
    (try simp only [Act.put, ptA, ptB, ptC])
    refine wpE_done (by kernel_rfl) ?_ _
    go_wp2_with fail
    go_roundw
    case rel => exact ⟨i + 1, _, _, by omega, hst3, by
     have h9 := HP9.out
     rwa [hn8, ← take_one hx] at h9⟩
    case measure => simp only [slen]; omega
   | false =>
    have hTF := of_decide_eq_false HT.out
    have hie := HSS.out.2 fun e => hTF ⟨by omega, e.2⟩
    have HREL := Hd (show VsB w wr z (.slice Aq ql cq) M h notes body a r0 (.slice A0 m c0) (.int .i64 ((k : Int) + 1)) wd from ⟨l + 1, i, k + 1, Q, _, _, by omega, by have := HE1.out; omega, by simp, by rw [hie]; exact HSTP1.out, by rw [hie]; exact HFP2.out, HLX.out, by omega, HPG2.out⟩)
    clear hie hTF
    go_wp2_with fail
    go_roundw
    case rel => exact HREL.out
    case measure => simp only [toM]; omega
end Go.Proofs.YtdbnddmncbjobaaGreatDoor
