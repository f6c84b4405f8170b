/- The reference's Set: walked (printed by genve.py). -/
import Derived.Test.YtdbnddmncbjobaaGreatDoorMi
import Derived.Test.YtdbnddmncbjobaaGreatDoorMe
import Derived.Test.YtdbnddmncbjobaaGreatDoorMg
import Derived.Test.YtdbnddmncbjobaaGreatDoorMh
import Derived.Test.YtdbnddmncbjobaaGreatDoorMd
namespace Go.Proofs.YtdbnddmncbjobaaGreatDoor
open Go Go.RowKit

/-- The front is taken off the queue. -/
theorem vq_cut {W : World} {b : Nat} {P : Nat → Prop} {A : Option Addr} {m c s : Nat} {q : List Ln} (h : kLn.que 86 W b P (.slice A m c) (q.drop s)) (hm : (q.drop s).length = m) (hc : m ≤ c) (h0 : 0 < m) :
    ∃ A' c', (∀ Y, kLn.que 86 Y b P (.slice A m c) (q.drop s) → kLn.que 86 Y b P (.slice A' (m - 1) c') (q.drop (s + 1))) ∧ (∀ j, (Value.slice A' (m - 1) c').ownBlock = some j → (Value.slice A m c).ownBlock = some j) ∧
      ∀ X, (Instr.sliceAt 82 (.slice A m c) (some (.int .i64 1)) none none).run Tryz.prog X = .ok (.slice A' (m - 1) c') X := by
  rcases que_form h with ⟨_, h1, _⟩ | ⟨g, o, rfl⟩
  · omega
  · have hrun := fun X => slice_lo g o m c 1 (by omega) hc X
    refine ⟨_, _, fun Y hY => ?_, fun j hj => hj, hrun⟩
    by_cases hcs : c = 1
    · subst hcs
      obtain rfl : m = 1 := by omega
      rw [if_pos rfl, List.drop_of_length_le (by rw [List.length_drop] at hm; omega)]
      exact que_empty' hY
    · rw [if_neg hcs, ← drop_one]
      exact Lay.que_drop hY 1 (by omega)
set_option maxHeartbeats 16000000 in
set_option maxRecDepth 100000 in
theorem rset_any (P P' : Nat → Prop) (w : World) (A A' : Option Addr) (n n' c c' M : Nat) (body : List Ln) (notes : List (List Ln)) (h : Int) (h1 : kLn.row w P A n body) (h2 : kLs.row w P' A' n' notes) (hc : chkPg body notes h = 0) (hM : leftP notes body [] ≤ M) (hM1 : M ≤ 100000) (hn' : n' ≤ 100000) (hl : LnsB body) (hln : ∀ l ∈ notes, LnsB l) (hnt : NtsOk notes.length body) :
    Calls Tryz.prog 146 #[.slice A n c, .slice A' n' c', .int .i64 h] w (fun e w' => ∃ A1 c1, e = .returned (.tuple #[.slice A1 (setPg body notes h).2.length c1, .int .i64 0]) ∧ kPg.own 84 w' w.heap.size (fun j => w.heap.size ≤ j) (.slice A1 (setPg body notes h).2.length c1) ((setPg body notes h).2.map pgOf) ∧ Ext w w') := by
  have HE1 := Lib.hid (Lay.row_len h1)
  have HE2 := Lib.hid (Lay.row_len h2)
  have hbn := leftP_len notes body []
  have hnM : n ≤ 100000 := by have := HE1.out; omega
  have HWR := Lib.hid (rwrong_any (fun _ => True) w A A' n n' c c' body notes h (Lay.row_mono h1 fun _ _ _ => trivial) (Lay.row_mono h2 fun _ _ _ => trivial) hc hnM hn')
  have HR1 := Lib.hid h1
  have HR2 := Lib.hid h2
  have HLB := Lib.hid hl
  have HLN := Lib.hid hln
  have HNT0 := Lib.hid hnt
  have hh : 4 ≤ h ∧ h ≤ 100 := by
    obtain ⟨k1, k2, _⟩ := chkPg_inv hc
    omega
  obtain ⟨hh1, hh2⟩ := hh
  obtain ⟨all, hall⟩ : ∃ all, (setPg body notes h).2 = all := ⟨_, rfl⟩
  have HALL := Lib.hid (show all = setF h notes (leftP notes body []) body [] by rw [← hall]; unfold setPg; rw [if_neg (by rw [hc]; simp)])
  rw [hall]
  clear h1 h2 hc hl hln hnt hall
  go_enter Tryz.func146, Tryz.ntmps146
  go_wp2_with (first | (go_at_call 180; refine (HWR.out).mono ?_; rintro e w1 ⟨rfl, rfl⟩))
  go_loopw [9, 10, 11, 12, 13] (fun s9 s10 s11 _ _ w' => VsO w M h notes body all s9 s10 s11 w') (fun s9 _ _ _ _ _ => M - slen s9)
  case atStart => exact ⟨0, [], [], by omega, rfl, ⟨Lay.own_nil _ _ _ _ _, fun j hj => nomatch hj⟩, Lay.que_nil _ _ _ _ _, by simpa using HALL.out, by simpa using hM, (fun x hx => nomatch hx), Ext.refl _⟩
  case round =>
    obtain ⟨a, q, pgs, ha, rfl, hout, hque, heq, hleft, hlq, hx⟩ := hrel
    rename World => wr
    have HOUT := Lib.hid hout
    have HQUE := Lib.hid hque
    have HEQ := Lib.hid heq
    have HX := Lib.hid hx
    have HLQ := Lib.hid hlq
    obtain ⟨A9, c9, e9, hc9, _⟩ := Lay.own_row hout.1
    rw [List.length_map] at e9 hc9
    subst e9
    obtain ⟨Aq, cq, eq, hcq, _⟩ := Lay.que_len hque
    obtain ⟨ql, hql⟩ : ∃ ql, q.length = ql := ⟨_, rfl⟩
    rw [hql] at eq hcq
    subst eq
    rw [← HE1.out] at ha
    clear hout hque heq hlq hx
    by_cases hdone : a = n ∧ q = []
    · obtain ⟨rfl, rfl⟩ := hdone
      obtain rfl : ql = 0 := by simpa using hql.symm
      have hni : ¬ ((a : Int) < (a : Int)) := by omega
      have HF := Lib.hid (show all = pgs by
        rw [HEQ.out, List.drop_of_length_le (by have := HE1.out; omega)]
        unfold leftP
        simp [setF])
      go_wp2_with fail
      refine bodyPost_ret (v := .tuple #[.slice A9 pgs.length c9, .int .i64 0]) (by simp [results, Tryz.results146, go_sem, *]) rfl ?_
      rw [HF.out]
      exact ⟨A9, c9, rfl, Lay.own_mono HOUT.out.1 fun j hj _ => hj.1, HX.out⟩
    have HGO := Lib.hid (show ¬ (body.drop a = [] ∧ q = []) from fun e => hdone ⟨by
      have := congrArg List.length e.1
      rw [List.length_drop, List.length_nil] at this
      have := HE1.out
      omega, e.2⟩)
    go_upto_region 7 with (fail)
    go_cut [29] (fun s29 wx => s29 = .bool true ∧ wx = wr)
    case first =>
      by_cases han : a < n
      · have han' : (a : Int) < (n : Int) := by omega
        go_wp2_with fail
        go_meet
        case rel => exact ⟨rfl, rfl⟩
      · have han' : ¬ ((a : Int) < (n : Int)) := by omega
        have hq0 : 0 < ql := by
          rcases Nat.eq_zero_or_pos ql with h9 | h9
          · exact absurd ⟨by omega, List.eq_nil_of_length_eq_zero (hql.trans h9)⟩ hdone
          · exact h9
        have hq0' : (0 : Int) < (ql : Int) := by omega
        go_wp2_with fail
        go_meet
        case rel => exact ⟨rfl, rfl⟩
    case rest =>
      obtain ⟨rfl, rfl⟩ := hcut
      rename World => wr
      go_upto_region 9 with (fail)
      obtain ⟨r0, hr0⟩ : ∃ r0, fillP h notes (body.drop a) q 0 (min (q.length : Int) (h - 1)) = r0 := ⟨_, rfl⟩
      have HR0 := Lib.hid hr0
      have HSTEP := Lib.hid (setF_step hh1 notes (body.drop a) q HGO.out r0 hr0)
      have HPS := Lib.hid (PgW.start HX.out HQUE.out)
      obtain ⟨z, hz⟩ : ∃ z, wr.heap.size = z := ⟨_, rfl⟩
      rw [hz] at HPS
      obtain ⟨W1, hW1⟩ : ∃ W1, wr.alloc (.cells #[.int .i64 0, .int .i64 0, .int .i64 0, .int .i64 0, .slice none 0 0, .slice none 0 0] 84) = W1 := ⟨_, rfl⟩
      rw [hW1] at HPS
      rw [hW1, hz]
      have HZ := Lib.hid hz
      have hqM : q.length ≤ 100000 := by have : q.length ≤ leftP notes (body.drop a) q := by unfold leftP; omega
                                         omega
      have hlf : leftP notes (body.drop a) q ≤ M := by omega
      have hpg : pgs.length ≤ 100000 := by omega
      have hpgM : pgs.length < M := by have := HSTEP.out.2.1; omega
      clear hr0 hW1 hz hdone hcq
      go_loopw [10] (fun s10 w' => VsA w wr z (.slice Aq ql cq) h q s10 w') (fun s10 _ => slen s10)
      case atStart => exact ⟨0, _, by omega, by omega, by rw [List.take_zero, List.drop_zero]; exact HPS.out⟩
      case round =>
        obtain ⟨s, Nv, hsq, hsh, hpg0⟩ := hrel
        rename World => wv
        have hn8 : (q.take s).length = s := by rw [List.length_take]; omega
        obtain ⟨m, hmq⟩ : ∃ m, (q.drop s).length = m := ⟨_, rfl⟩
        have hms1 : m ≤ q.length - s := by rw [← hmq, List.length_drop]; exact Nat.le_refl _
        have hms2 : q.length - s ≤ m := by rw [← hmq, List.length_drop]; exact Nat.le_refl _
        obtain ⟨A8, c8, rfl, hc8⟩ := hpg0.noteV hn8
        obtain ⟨A0, c0, rfl, hcm⟩ := hpg0.queV hmq
        have HPG := Lib.hid hpg0
        have z5 := cell_of hpg0.box (i := 5) (u := .slice A8 s c8) rfl
        clear hpg0
        obtain ⟨T, hT⟩ : ∃ T, decide (0 < m ∧ (s : Int) < h - 1) = T := ⟨_, rfl⟩
        have HT := Lib.hid hT
        clear hT
        go_upto_region 9 with (fail)
        go_cut [41] (fun s41 wx => s41 = .bool T ∧ wx = wv)
        case first =>
          by_cases hm0 : 0 < m
          · have hm0' : (0 : Int) < (m : Int) := by omega
            have hm0b : decide ((0 : Int) < (m : Int)) = true := by simpa using hm0
            by_cases hs1 : (s : Int) < h - 1
            · go_wp2_with fail
              go_meet
              case rel => exact ⟨by rw [← HT.out, decide_eq_true (show 0 < m ∧ (s : Int) < h - 1 from ⟨hm0, hs1⟩)], rfl⟩
            · go_wp2_with fail
              go_meet
              case rel => exact ⟨by rw [← HT.out, decide_eq_false (show ¬ (0 < m ∧ (s : Int) < h - 1) from fun e => by omega)], rfl⟩
          · have hm0' : ¬ (0 : Int) < (m : Int) := by omega
            have hm0b : decide ((0 : Int) < (m : Int)) = false := by simpa using hm0
            go_wp2_with fail
            go_meet
            case rel => exact ⟨by rw [← HT.out, decide_eq_false (show ¬ (0 < m ∧ (s : Int) < h - 1) from fun e => hm0 e.1)], rfl⟩
        case rest =>
          obtain ⟨rfl, rfl⟩ := hcut
          rename World => wv
          cases T with
          | true =>
            obtain ⟨hm0, hs1⟩ := of_decide_eq_true HT.out
            obtain ⟨x, hx⟩ : ∃ x, q[s]? = some x := ⟨_, List.getElem?_eq_getElem (by omega)⟩
            have hx0 : (q.drop s)[0]? = some x := by rw [List.getElem?_drop]; exact hx
            obtain ⟨g, o, cs, ea, hgl, _, hrep, hcell⟩ := Lay.row_at (Lay.que_row HPG.out.qo) hx0
            subst ea
            obtain ⟨G1, g1, e1, G2, g2, e2, rfl, he1, he2, hr1, hr2⟩ := kLn_rep.1 hrep
            have y0 := hcell 0 _ rfl
            have y1 := hcell 1 _ rfl
            have y2 := hcell 2 _ rfl
            have y3 := hcell 3 _ rfl
            rw [Nat.zero_mul, Nat.add_zero] at y0 y1 y2 y3
            try rw [Nat.add_zero] at y0
            have hxl := HLQ.out x (List.mem_of_getElem? hx)
            obtain ⟨xf, xu, xg, xn⟩ := x
            simp only at y0 y1 y2 y3 hr1 hr2 hxl
            have eg1 : g1 ≤ 1000000 := by have := Lay.row_len hr1; omega
            have eg2 : g2 ≤ 1000000 := by have := Lay.row_len hr2; omega
            have HCP := Lib.hid (fun X (hX : Ext wv X) => rcopy_any _ X (⟨xf, xu, xg, xn⟩ : Ln) G1 G2 g1 g2 e1 e2 (Lay.row_ext hr1 hX) (Lay.row_ext hr2 hX) he1 he2 (by omega) (by omega))
            have HBX := Lib.hid HPG.out.box
            have HS0 := Lib.hid (fun X (hX : Ext wv X) => (show X.cell? ⟨z, 5, none⟩ = some (.slice A8 s c8) ∧ X.cell? ⟨g, o, none⟩ = some (.int .i64 xf) ∧ X.cell? ⟨g, o + 1, none⟩ = some (.int .i64 xu) ∧ X.cell? ⟨g, o + 2, none⟩ = some (.slice G1 g1 e1) ∧ X.cell? ⟨g, o + 3, none⟩ = some (.slice G2 g2 e2) from
              ⟨cell_of ((hX.block _ (lt_of_block HBX.out)).trans HBX.out) (i := 5) rfl, (hX.cells.1 g _ hgl).trans y0, (hX.cells.1 g _ hgl).trans y1, (hX.cells.1 g _ hgl).trans y2, (hX.cells.1 g _ hgl).trans y3⟩))
            have hng : (Value.slice A8 s c8).ownBlock ≠ some g := fun e => HPG.out.dnq g e rfl
            have HS9 := Lib.hid (fun X (hX : Ext wv X) (w9 : World) (hb : w9.heap[z]? = some (.cells #[.int .i64 0, .int .i64 0, .int .i64 0, .int .i64 0, .slice none 0 0, .slice A8 s c8] 84 (0, 0))) (hk : ∀ j, j < X.heap.size → (Value.slice A8 s c8).ownBlock ≠ some j → w9.heap[j]? = X.heap[j]?) => (show w9.cell? ⟨z, 5, none⟩ = some (.slice A8 s c8) ∧ w9.cell? ⟨g, o, none⟩ = some (.int .i64 xf) ∧ w9.cell? ⟨g, o + 1, none⟩ = some (.int .i64 xu) ∧ w9.cell? ⟨g, o + 2, none⟩ = some (.slice G1 g1 e1) ∧ w9.cell? ⟨g, o + 3, none⟩ = some (.slice G2 g2 e2) from
              have h9 := HS0.out X hX
              have h8 : w9.heap[g]? = X.heap[g]? := hk g (Nat.lt_of_lt_of_le hgl hX.lt) hng
              ⟨cell_of hb (i := 5) rfl, (World.cell?_of_block (a := ⟨g, _, none⟩) h8).trans h9.2.1, (World.cell?_of_block (a := ⟨g, _, none⟩) h8).trans h9.2.2.1, (World.cell?_of_block (a := ⟨g, _, none⟩) h8).trans h9.2.2.2.1, (World.cell?_of_block (a := ⟨g, _, none⟩) h8).trans h9.2.2.2.2⟩))
            obtain ⟨A5, c5, hq5, ho5, hcq⟩ := vq_cut HPG.out.qo hmq hcm (by omega)
            have HQ5 := Lib.hid (fun (_ : Unit) => hq5)
            have HNT := Lib.hid (fun X (hX : Ext wv X) (B1 B2 : Option Addr) (m1 d1 m2 d2 : Nat) (h1 : m1 ≤ d1) (h2 : m2 ≤ d2) (k1 : kInt.row X (fun j => wv.heap.size ≤ j) B1 m1 xg) (k2 : kInt.row X (fun j => wv.heap.size ≤ j) B2 m2 xn) =>
              HPG.out.note hX (x := (⟨xf, xu, xg, xn⟩ : Ln)) (cs := #[.int .i64 xf, .int .i64 xu, .slice B1 m1 d1, .slice B2 m2 d2]) (kLn_rep.2 ⟨B1, m1, d1, B2, m2, d2, rfl, h1, h2, k1, k2⟩) (by rw [hn8]; omega) (qv' := .slice A5 (m - 1) c5) (Q' := q.drop (s + 1)) (fun Y hY => HQ5.out () Y hY) ho5)
            clear hx0 hgl hrep hcell y0 y1 y2 y3 hr1 hr2 hng hq5 ho5 he1 he2 hxl
            go_upto_region 10 with (fail)
            have hS0 : (fun X : World => X.cell? ⟨z, 5, none⟩ = some (.slice A8 s c8) ∧ X.cell? ⟨g, o, none⟩ = some (.int .i64 xf) ∧ X.cell? ⟨g, o + 1, none⟩ = some (.int .i64 xu) ∧ X.cell? ⟨g, o + 2, none⟩ = some (.slice G1 g1 e1) ∧ X.cell? ⟨g, o + 3, none⟩ = some (.slice G2 g2 e2)) wv.drew := HS0.out _ (Ext.refl _).drew
            refine wp_region_E (fun X : World => X.cell? ⟨z, 5, none⟩ = some (.slice A8 s c8) ∧ X.cell? ⟨g, o, none⟩ = some (.int .i64 xf) ∧ X.cell? ⟨g, o + 1, none⟩ = some (.int .i64 xu) ∧ X.cell? ⟨g, o + 2, none⟩ = some (.slice G1 g1 e1) ∧ X.cell? ⟨g, o + 3, none⟩ = some (.slice G2 g2 e2)) (fun _ => True) (fun i => i == 9) (by kernel_rfl) ?_
            refine wpE_takeS (i := 0) (d := some 42) (v := .pointer (some ⟨z, 5, none⟩)) rfl rfl (by kernel_rfl) (by kernel_rfl) (by kernel_rfl) (by kernel_rfl) (fun _ _ _ h => h) (by rfl) ?hya1 hS0 trivial ?goa1
            case hya1 =>
              intro w9 hT9
              clear hT9; go_simp
            (try simp only [Act.put, List.setIfInBounds_toArray, List.set_cons_zero, List.set_cons_succ])
            refine wpE_takeS (i := 1) (d := some 43) (v := .slice A8 s c8) rfl rfl (by kernel_rfl) (by kernel_rfl) (by kernel_rfl) (by kernel_rfl) (fun _ _ _ h => h) (by rfl) ?hya2 hS0 trivial ?goa2
            case hya2 =>
              intro w9 hT9
              obtain ⟨y0, y1, y2, y3, y4⟩ := hT9; go_simp
            (try simp only [Act.put, List.setIfInBounds_toArray, List.set_cons_zero, List.set_cons_succ])
            refine wpE_takeS (i := 2) (d := some 44) (v := .slice (some ⟨g, o, none⟩) m c0) rfl rfl (by kernel_rfl) (by kernel_rfl) (by kernel_rfl) (by kernel_rfl) (fun _ _ _ h => h) (by rfl) ?hya3 hS0 trivial ?goa3
            case hya3 =>
              intro w9 hT9
              clear hT9; go_simp
            (try simp only [Act.put, List.setIfInBounds_toArray, List.set_cons_zero, List.set_cons_succ])
            refine wpE_takeS (i := 3) (d := some 45) (v := .pointer (some ⟨g, o, none⟩)) rfl rfl (by kernel_rfl) (by kernel_rfl) (by kernel_rfl) (by kernel_rfl) (fun _ _ _ h => h) (by rfl) ?hya4 hS0 trivial ?goa4
            case hya4 =>
              intro w9 hT9
              clear hT9; go_simp
            (try simp only [Act.put, List.setIfInBounds_toArray, List.set_cons_zero, List.set_cons_succ])
            refine wpE_takeS (i := 4) (d := some 46) (v := .agg #[.int .i64 xf, .int .i64 xu, .slice G1 g1 e1, .slice G2 g2 e2]) rfl rfl (by kernel_rfl) (by kernel_rfl) (by kernel_rfl) (by kernel_rfl) (fun _ _ _ h => h) (by rfl) ?hya5 hS0 trivial ?goa5
            case hya5 =>
              intro w9 hT9
              obtain ⟨y0, y1, y2, y3, y4⟩ := hT9; go_simp
            (try simp only [Act.put, List.setIfInBounds_toArray, List.set_cons_zero, List.set_cons_succ])
            refine wpE_all (rs := [5]) (by kernel_rfl) (by simp) ?_
            refine AllE.cons rfl (fun K hK => ?_) AllE.nil
            simp only [List.getElem_toArray, List.getElem_cons_succ, List.getElem_cons_zero]
            go_simp
            go_at_call 181
            refine (HCP.out _ (Ext.refl _).drew).mono ?_
            rintro z9 wG ⟨v9, rfl, hv9, hxG⟩
            obtain ⟨B1, m1, d1, B2, m2, d2, rfl, hm1, hm2, hr1, hr2⟩ := hv9
            have hcur : Ext wv wG := (Ext.refl _).drew.trans hxG
            simp only []
            refine hK.out _ _ ⟨fun _ => (HS0.out _ hcur), trivial⟩ (fun _ => ?_)
            clear hK K
            have hS0 := (HS0.out _ hcur)
            (try simp only [Act.put, List.setIfInBounds_toArray, List.set_cons_zero, List.set_cons_succ])
            refine wpE_all (rs := [6]) (by kernel_rfl) (by simp) ?_
            refine AllE.cons rfl (fun K hK => ?_) AllE.nil
            simp only [List.getElem_toArray, List.getElem_cons_succ, List.getElem_cons_zero]
            go_simp
            refine hK.out _ _ ⟨fun _ => (HS0.out _ (hcur.alloc (.cells #[.int .i64 xf, .int .i64 xu, .slice B1 m1 d1, .slice B2 m2 d2] 86))), trivial⟩ (fun _ => ?_)
            clear hK K
            have hS0 := (HS0.out _ (hcur.alloc (.cells #[.int .i64 xf, .int .i64 xu, .slice B1 m1 d1, .slice B2 m2 d2] 86)))
            (try simp only [Act.put, List.setIfInBounds_toArray, List.set_cons_zero, List.set_cons_succ])
            refine wpE_all (rs := [7]) (by kernel_rfl) (by simp) ?_
            refine AllE.cons rfl (fun K hK => ?_) AllE.nil
            simp only [List.getElem_toArray, List.getElem_cons_succ, List.getElem_cons_zero]
            obtain ⟨A9, c9, w9, hrun, hb9, hx9, hk9, hp9⟩ := HNT.out wG hcur B1 B2 m1 d1 m2 d2 hm1 hm2 hr1 hr2
            have HC9 := Lib.hid (HS9.out wG hcur w9 hb9 hk9)
            have HB9 := Lib.hid hb9
            have HP9 := Lib.hid hp9
            clear hb9 hk9 hp9 hx9 hr1 hr2
            refine step_append_tm (s := .tmp 43) (x := .tmp 48) hrun rfl rfl rfl rfl rfl ?_
            refine hK.out _ _ ⟨fun _ => HC9.out, trivial⟩ (fun _ => ?_)
            clear hK K
            have hS0 := HC9.out
            (try simp only [Act.put, List.setIfInBounds_toArray, List.set_cons_zero, List.set_cons_succ])
            refine wpE_takeS (i := 8) (d := some 50) (v := .pointer (some ⟨z, 5, none⟩)) rfl rfl (by kernel_rfl) (by kernel_rfl) (by kernel_rfl) (by kernel_rfl) (fun _ _ _ h => h) (by rfl) ?hya6 hS0 trivial ?goa6
            case hya6 =>
              intro w9 hT9
              clear hT9; go_simp
            (try simp only [Act.put, List.setIfInBounds_toArray, List.set_cons_zero, List.set_cons_succ])
            refine wpE_all (rs := [9]) (by kernel_rfl) (by simp) ?_
            refine AllE.cons rfl (fun K hK => ?_) AllE.nil
            simp only [List.getElem_toArray, List.getElem_cons_succ, List.getElem_cons_zero]
            have z5 := HC9.out.1
            have z6 := frozen_of HB9.out 5
            go_simp
            refine hK.out _ _ ⟨fun h => absurd h (by simp), trivial⟩ (fun _ => ?_)
            clear hK K
            (try simp only [Act.put, List.setIfInBounds_toArray, List.set_cons_zero, List.set_cons_succ])
            refine wpE_done (by kernel_rfl) ?_ _
            go_wp2_with fail
            go_roundw
            case rel => exact ⟨s + 1, _, by omega, by omega, by
              have h9 := HP9.out
              rwa [hn8, ← take_one hx] at h9⟩
            case measure => simp only [slen]; omega
          | false =>
            have hTF := of_decide_eq_false HT.out
            have hsmin : (s : Int) = min (q.length : Int) (h - 1) := by omega
            have HR0s := Lib.hid (show fillP h notes (body.drop a) q 0 (s : Int) = r0 by rw [hsmin]; exact HR0.out)
            have HFS := Lib.hid (show FillI h q 0 (s : Int) by rw [hsmin]; exact fill_start hh1 q)
            clear hsmin hTF
            go_wp2_with fail
            clear z5
            go_loopw [10, 11, 13] (fun s10 s11 _ w' => VsB w wr z (.slice Aq ql cq) M h notes body a r0 s10 s11 w') (fun _ s11 _ _ => toM n s11)
            case atStart => exact ⟨0, s, a, q, _, _, by omega, by have := HE1.out; omega, rfl, HFS.out, HR0s.out, HLQ.out, hlf, by rw [List.take_zero]; exact HPG.out⟩
            case round =>
              clear HR0s HFS HPG hsq hsh hn8 hmq hms1 hms2 hc8 hcm HLQ
              obtain ⟨l, s, k, q, Bv, Nv, hkl, hkb, rfl, hfi, hfp, hlq, hlf2, hpg0⟩ := hrel
              rename World => wv
              rw [← HE1.out] at hkb
              have HKL := Lib.hid hkl
              have hkl1 : k ≤ a + l := by omega
              have hkl2 : a + l ≤ k := by omega
              clear hkl
              have HFI := Lib.hid hfi
              have HFP := Lib.hid hfp
              have HLQ := Lib.hid hlq
              have hsq : s ≤ q.length := by have := hfi.le; omega
              have hqM2 : q.length ≤ 100000 := by have : q.length ≤ leftP notes (body.drop k) q := by unfold leftP; omega
                                                  omega
              have hn8 : (q.take s).length = s := by rw [List.length_take]; omega
              have hn7 : ((body.drop a).take l).length = l := by rw [List.length_take, List.length_drop]; have := HE1.out; omega
              obtain ⟨m, hmq⟩ : ∃ m, (q.drop s).length = m := ⟨_, rfl⟩
              have hms1 : m ≤ q.length - s := by rw [← hmq, List.length_drop]; exact Nat.le_refl _
              have hms2 : q.length - s ≤ m := by rw [← hmq, List.length_drop]; exact Nat.le_refl _
              obtain ⟨A8, c8, rfl, hc8⟩ := hpg0.noteV hn8
              obtain ⟨A7, c7, rfl, hc7⟩ := hpg0.bodyV hn7
              obtain ⟨A0, c0, rfl, hcm⟩ := hpg0.queV hmq
              have HPG := Lib.hid hpg0
              have HXV := Lib.hid hpg0.ext
              clear hfi hfp hlq hpg0
              obtain ⟨T, hT⟩ : ∃ T, (match body[k]? with | some x => fitsP h q x l (s : Int) | none => false) = T := ⟨_, rfl⟩
              have HT := Lib.hid hT
              clear hT
              go_upto_region 12 with (fail)
              go_cut [67] (fun s67 wx => s67 = .bool T ∧ Ext wv wx)
              case first =>
                by_cases hkn : k < n
                case neg =>
                  have hkn' : ¬ ((k : Int) < (n : Int)) := by omega
                  have hknb : decide ((k : Int) < (n : Int)) = false := decide_eq_false hkn'
                  have hTf : T = false := by rw [← HT.out, List.getElem?_eq_none (by have := HE1.out; omega)]
                  subst hTf
                  go_quiet (fail)
                  go_wp2
                  go_meet
                  case rel => exact ⟨rfl, (Ext.refl _).drewN _⟩
                have hkI : (k : Int) < (n : Int) := by omega
                obtain ⟨x, hx⟩ : ∃ x, body[k]? = some x := ⟨_, List.getElem?_eq_getElem (by have := HE1.out; omega)⟩
                obtain ⟨bb, ob, cs, rfl, hbb, _, hrep, hcell⟩ := Lay.row_at (Lay.row_ext HR1.out HXV.out) hx
                obtain ⟨G1, g1, e1, G2, g2, e2, rfl, he1, he2, hr1, hr2⟩ := kLn_rep.1 hrep
                have y0 := hcell 0 _ rfl
                have y1 := hcell 1 _ rfl
                have y2 := hcell 2 _ rfl
                have y3 := hcell 3 _ rfl
                rw [kLn_sz] at y0 y1 y2 y3
                rw [Nat.add_zero] at y0
                have eg2 := Lay.row_len hr2
                have HTE := Lib.hid (show fitsR l s g2 (m : Int) h = T by
                  rw [← HT.out, hx, show m = q.length - s by omega, eg2]
                  exact fits_eq HFI.out x)
                obtain ⟨xf, xu, xg, xn⟩ := x
                simp only at y0 y1 y2 y3
                have HFT := Lib.hid (fun X => (show Calls Tryz.prog 182 #[.agg #[.int .i64 0, .int .i64 0, .int .i64 0, .int .i64 0, .slice A7 l c7, .slice A8 s c8], .agg #[.int .i64 xf, .int .i64 xu, .slice G1 g1 e1, .slice G2 g2 e2], .int .i64 (m : Int), .int .i64 h] X (fun e w' => e = .returned (.bool T) ∧ Ext X w') from by
                  rw [← HTE.out]
                  exact rfits_any X 0 0 0 0 xf xu (m : Int) h A7 A8 G1 G2 l c7 s c8 g1 e1 g2 e2 (by omega) (by omega) (by omega) (by omega)))
                have HBX := Lib.hid HPG.out.box
                have HS0 := Lib.hid (fun X (hX : Ext wv X) => (show (X.cell? ⟨z, 0, none⟩ = some (.int .i64 0) ∧ X.cell? ⟨z, 1, none⟩ = some (.int .i64 0) ∧ X.cell? ⟨z, 2, none⟩ = some (.int .i64 0) ∧ X.cell? ⟨z, 3, none⟩ = some (.int .i64 0) ∧ X.cell? ⟨z, 4, none⟩ = some (.slice A7 l c7) ∧ X.cell? ⟨z, 5, none⟩ = some (.slice A8 s c8)) ∧
                    X.cell? ⟨bb, ob + k * 4, none⟩ = some (.int .i64 xf) ∧ X.cell? ⟨bb, ob + k * 4 + 1, none⟩ = some (.int .i64 xu) ∧ X.cell? ⟨bb, ob + k * 4 + 2, none⟩ = some (.slice G1 g1 e1) ∧ X.cell? ⟨bb, ob + k * 4 + 3, none⟩ = some (.slice G2 g2 e2) from
                  have h9 := (hX.block _ (lt_of_block HBX.out)).trans HBX.out
                  ⟨⟨cell_of h9 (i := 0) rfl, cell_of h9 (i := 1) rfl, cell_of h9 (i := 2) rfl, cell_of h9 (i := 3) rfl, cell_of h9 (i := 4) rfl, cell_of h9 (i := 5) rfl⟩, (hX.cells.1 bb _ hbb).trans y0, (hX.cells.1 bb _ hbb).trans y1, (hX.cells.1 bb _ hbb).trans y2, (hX.cells.1 bb _ hbb).trans y3⟩))
                clear hx hrep hcell y0 y1 y2 y3 hr1 hr2 he1 he2 eg2
                have hS0 : (fun X : World => (X.cell? ⟨z, 0, none⟩ = some (.int .i64 0) ∧ X.cell? ⟨z, 1, none⟩ = some (.int .i64 0) ∧ X.cell? ⟨z, 2, none⟩ = some (.int .i64 0) ∧ X.cell? ⟨z, 3, none⟩ = some (.int .i64 0) ∧ X.cell? ⟨z, 4, none⟩ = some (.slice A7 l c7) ∧ X.cell? ⟨z, 5, none⟩ = some (.slice A8 s c8)) ∧ X.cell? ⟨bb, ob + k * 4, none⟩ = some (.int .i64 xf) ∧ X.cell? ⟨bb, ob + k * 4 + 1, none⟩ = some (.int .i64 xu) ∧ X.cell? ⟨bb, ob + k * 4 + 2, none⟩ = some (.slice G1 g1 e1) ∧ X.cell? ⟨bb, ob + k * 4 + 3, none⟩ = some (.slice G2 g2 e2)) wv.drew := HS0.out _ (Ext.refl _).drew
                refine wp_region_E (fun X : World => (X.cell? ⟨z, 0, none⟩ = some (.int .i64 0) ∧ X.cell? ⟨z, 1, none⟩ = some (.int .i64 0) ∧ X.cell? ⟨z, 2, none⟩ = some (.int .i64 0) ∧ X.cell? ⟨z, 3, none⟩ = some (.int .i64 0) ∧ X.cell? ⟨z, 4, none⟩ = some (.slice A7 l c7) ∧ X.cell? ⟨z, 5, none⟩ = some (.slice A8 s c8)) ∧ X.cell? ⟨bb, ob + k * 4, none⟩ = some (.int .i64 xf) ∧ X.cell? ⟨bb, ob + k * 4 + 1, none⟩ = some (.int .i64 xu) ∧ X.cell? ⟨bb, ob + k * 4 + 2, none⟩ = some (.slice G1 g1 e1) ∧ X.cell? ⟨bb, ob + k * 4 + 3, none⟩ = some (.slice G2 g2 e2)) (fun _ => True) (fun i => false) (by kernel_rfl) ?_
                refine wpE_takeS (i := 0) (d := some 53) (v := .int .i64 (k : Int)) rfl rfl (by kernel_rfl) (by kernel_rfl) (by kernel_rfl) (by kernel_rfl) (fun _ _ _ h => h) (by rfl) ?hyf1 hS0 trivial ?gof1
                case hyf1 =>
                  intro w9 hT9
                  clear hT9; go_simp
                (try simp only [Act.put, List.setIfInBounds_toArray, List.set_cons_zero, List.set_cons_succ])
                refine wpE_takeS (i := 1) (d := some 54) (v := .slice (some ⟨bb, ob, none⟩) n c) rfl rfl (by kernel_rfl) (by kernel_rfl) (by kernel_rfl) (by kernel_rfl) (fun _ _ _ h => h) (by rfl) ?hyf2 hS0 trivial ?gof2
                case hyf2 =>
                  intro w9 hT9
                  clear hT9; go_simp
                (try simp only [Act.put, List.setIfInBounds_toArray, List.set_cons_zero, List.set_cons_succ])
                refine wpE_takeS (i := 2) (d := some 55) (v := .int .i64 (n : Int)) rfl rfl (by kernel_rfl) (by kernel_rfl) (by kernel_rfl) (by kernel_rfl) (fun _ _ _ h => h) (by rfl) ?hyf3 hS0 trivial ?gof3
                case hyf3 =>
                  intro w9 hT9
                  clear hT9; go_simp
                (try simp only [Act.put, List.setIfInBounds_toArray, List.set_cons_zero, List.set_cons_succ])
                refine wpE_takeS (i := 3) (d := some 56) (v := .bool true) rfl rfl (by kernel_rfl) (by kernel_rfl) (by kernel_rfl) (by kernel_rfl) (fun _ _ _ h => h) (by rfl) ?hyf4 hS0 trivial ?gof4
                case hyf4 =>
                  intro w9 hT9
                  clear hT9; go_simp
                (try simp only [Act.put, List.setIfInBounds_toArray, List.set_cons_zero, List.set_cons_succ])
                refine wpE_takeS (i := 4) (d := some 57) (v := .bool true) rfl rfl (by kernel_rfl) (by kernel_rfl) (by kernel_rfl) (by kernel_rfl) (fun _ _ _ h => h) (by rfl) ?hyf5 hS0 trivial ?gof5
                case hyf5 =>
                  intro w9 hT9
                  clear hT9; go_simp
                (try simp only [Act.put, List.setIfInBounds_toArray, List.set_cons_zero, List.set_cons_succ])
                refine wpE_takeS (i := 5) (d := some 58) (v := .agg #[.int .i64 0, .int .i64 0, .int .i64 0, .int .i64 0, .slice A7 l c7, .slice A8 s c8]) rfl rfl (by kernel_rfl) (by kernel_rfl) (by kernel_rfl) (by kernel_rfl) (fun _ _ _ h => h) (by rfl) ?hyf6 hS0 trivial ?gof6
                case hyf6 =>
                  intro w9 hT9
                  obtain ⟨⟨y0, y1, y2, y3, y4, y5⟩, y6, y7, y8, y9⟩ := hT9; go_simp
                (try simp only [Act.put, List.setIfInBounds_toArray, List.set_cons_zero, List.set_cons_succ])
                refine wpE_takeS (i := 6) (d := some 59) (v := .slice (some ⟨bb, ob, none⟩) n c) rfl rfl (by kernel_rfl) (by kernel_rfl) (by kernel_rfl) (by kernel_rfl) (fun _ _ _ h => h) (by rfl) ?hyf7 hS0 trivial ?gof7
                case hyf7 =>
                  intro w9 hT9
                  clear hT9; go_simp
                (try simp only [Act.put, List.setIfInBounds_toArray, List.set_cons_zero, List.set_cons_succ])
                refine wpE_takeS (i := 7) (d := some 60) (v := .int .i64 (k : Int)) rfl rfl (by kernel_rfl) (by kernel_rfl) (by kernel_rfl) (by kernel_rfl) (fun _ _ _ h => h) (by rfl) ?hyf8 hS0 trivial ?gof8
                case hyf8 =>
                  intro w9 hT9
                  clear hT9; go_simp
                (try simp only [Act.put, List.setIfInBounds_toArray, List.set_cons_zero, List.set_cons_succ])
                refine wpE_takeS (i := 8) (d := some 61) (v := .pointer (some ⟨bb, ob + k * 4, none⟩)) rfl rfl (by kernel_rfl) (by kernel_rfl) (by kernel_rfl) (by kernel_rfl) (fun _ _ _ h => h) (by rfl) ?hyf9 hS0 trivial ?gof9
                case hyf9 =>
                  intro w9 hT9
                  clear hT9; go_simp
                (try simp only [Act.put, List.setIfInBounds_toArray, List.set_cons_zero, List.set_cons_succ])
                refine wpE_takeS (i := 9) (d := some 62) (v := .agg #[.int .i64 xf, .int .i64 xu, .slice G1 g1 e1, .slice G2 g2 e2]) rfl rfl (by kernel_rfl) (by kernel_rfl) (by kernel_rfl) (by kernel_rfl) (fun _ _ _ h => h) (by rfl) ?hyf10 hS0 trivial ?gof10
                case hyf10 =>
                  intro w9 hT9
                  obtain ⟨⟨y0, y1, y2, y3, y4, y5⟩, y6, y7, y8, y9⟩ := hT9; go_simp
                (try simp only [Act.put, List.setIfInBounds_toArray, List.set_cons_zero, List.set_cons_succ])
                refine wpE_takeS (i := 10) (d := some 63) (v := .slice A0 m c0) rfl rfl (by kernel_rfl) (by kernel_rfl) (by kernel_rfl) (by kernel_rfl) (fun _ _ _ h => h) (by rfl) ?hyf11 hS0 trivial ?gof11
                case hyf11 =>
                  intro w9 hT9
                  clear hT9; go_simp
                (try simp only [Act.put, List.setIfInBounds_toArray, List.set_cons_zero, List.set_cons_succ])
                refine wpE_takeS (i := 11) (d := some 64) (v := .int .i64 (m : Int)) rfl rfl (by kernel_rfl) (by kernel_rfl) (by kernel_rfl) (by kernel_rfl) (fun _ _ _ h => h) (by rfl) ?hyf12 hS0 trivial ?gof12
                case hyf12 =>
                  intro w9 hT9
                  clear hT9; go_simp
                (try simp only [Act.put, List.setIfInBounds_toArray, List.set_cons_zero, List.set_cons_succ])
                refine wpE_takeS (i := 12) (d := some 65) (v := .int .i64 h) rfl rfl (by kernel_rfl) (by kernel_rfl) (by kernel_rfl) (by kernel_rfl) (fun _ _ _ h => h) (by rfl) ?hyf13 hS0 trivial ?gof13
                case hyf13 =>
                  intro w9 hT9
                  clear hT9; go_simp
                (try simp only [Act.put, List.setIfInBounds_toArray, List.set_cons_zero, List.set_cons_succ])
                refine wpE_all (rs := [13]) (by kernel_rfl) (by simp) ?_
                refine AllE.cons rfl (fun K hK => ?_) AllE.nil
                simp only [List.getElem_toArray, List.getElem_cons_succ, List.getElem_cons_zero]
                go_simp
                go_at_call 182
                refine (HFT.out _).mono ?_
                rintro z9 wG ⟨rfl, hxG⟩
                have hcur : Ext wv wG := (Ext.refl _).drew.trans hxG
                simp only []
                refine hK.out _ _ ⟨fun _ => (HS0.out _ hcur), trivial⟩ (fun _ => ?_)
                clear hK K
                have hS0 := (HS0.out _ hcur)
                (try simp only [Act.put, List.setIfInBounds_toArray, List.set_cons_zero, List.set_cons_succ])
                refine wpE_takeS (i := 14) (d := some 67) (v := .bool T) rfl rfl (by kernel_rfl) (by kernel_rfl) (by kernel_rfl) (by kernel_rfl) (fun _ _ _ h => h) (by rfl) ?hyf14 hS0 trivial ?gof14
                case hyf14 =>
                  intro w9 hT9
                  clear hT9; go_simp
                (try simp only [Act.put, List.setIfInBounds_toArray, List.set_cons_zero, List.set_cons_succ])
                refine wpE_done (by kernel_rfl) ?_ _
                go_wp2_with fail
                go_meet
                case rel => exact ⟨rfl, hcur⟩
              case rest =>
                obtain ⟨rfl, hxc⟩ := hcut
                rename World => wc
                have HPC := Lib.hid (HPG.out.mv hxc)
                clear HPG hxc
                cases T with
                | false =>
                  have HRE := Lib.hid (show r0 = (l, q, (s : Int)) by
                    rw [← HFP.out]
                    cases hb : body.drop k with
                    | nil => rfl
                    | cons x r =>
                      have hxk : body[k]? = some x := by
                        have := congrArg (fun l => l[0]?) hb
                        simpa [List.getElem?_drop] using this
                      have h9 : fitsP h q x l (s : Int) = false := by
                        have h8 := HT.out
                        rw [hxk] at h8
                        exact h8
                      simp only [fillP]
                      rw [if_neg (by rw [h9]; simp)])
                  obtain ⟨A6, c6, w6, hrun, hout6, hque6, hx6⟩ := HPC.out.done HZ.out.symm HOUT.out (by rw [List.length_map]; omega)
                  rw [List.length_map] at hrun hout6
                  have HRUN := Lib.hid hrun
                  have HREL := Lib.hid (show VsO w M h notes body all (.slice A6 (pgs.length + 1) c6) (.slice A0 m c0) (.int .i64 (k : Int)) w6 from by
                    obtain ⟨t1, t2, t3, t4⟩ := HSTEP.out
                    rw [HRE.out] at t1 t2 t3 t4
                    simp only [Int.toNat_natCast] at t1 t2 t3 t4
                    rw [List.drop_drop, ← HKL.out] at t1 t2
                    refine ⟨k, q.drop s, pgs ++ [((body.drop a).take l, q.take s)], by have := HE1.out; omega, rfl, by rw [List.map_append]; exact hout6, hque6, ?_, by rw [List.length_append, List.length_singleton]; omega, HLQ.out.drop s, hx6⟩
                    rw [HEQ.out, t1, List.append_assoc]
                    rfl)
                  have b0 := cell_of HPC.out.box (i := 0) (u := .int .i64 0) rfl
                  have b1 := cell_of HPC.out.box (i := 1) (u := .int .i64 0) rfl
                  have b2 := cell_of HPC.out.box (i := 2) (u := .int .i64 0) rfl
                  have b3 := cell_of HPC.out.box (i := 3) (u := .int .i64 0) rfl
                  have b4 := cell_of HPC.out.box (i := 4) (u := .slice A7 l c7) rfl
                  have b5 := cell_of HPC.out.box (i := 5) (u := .slice A8 s c8) rfl
                  clear hrun hout6 hque6 hx6
                  go_wp2_with (first | (at_builtin; refine wpList_append_run (s := .tmp 129) (x := .tmp 131) HRUN.out rfl rfl rfl rfl rfl ?_))
                  go_roundw
                  case rel => exact HREL.out
                  case measure => simp only [slen]; omega
                | true =>
                  obtain ⟨x, hx⟩ : ∃ x, body[k]? = some x := by
                    cases hb : body[k]? with
                    | none => have h9 := HT.out; rw [hb] at h9; cases h9
                    | some x => exact ⟨x, rfl⟩
                  have hfx : fitsP h q x l (s : Int) = true := by have h9 := HT.out; rw [hx] at h9; exact h9
                  have hkn : k < n := by have := (List.getElem?_eq_some_iff.1 hx).1; have := HE1.out; omega
                  have hkI : (k : Int) < (n : Int) := by omega
                  have hkd : body.drop k = x :: body.drop (k + 1) := dwl _ hx
                  obtain ⟨hstp1, hstp2⟩ := fillP_step (notes := notes) HFI.out hfx
                  have HFP2 := Lib.hid (show fillP h notes (body.drop (k + 1)) (q ++ notesOf notes x) (l + 1) (showP h (q ++ notesOf notes x) (l + 1) (s : Int)) = r0 by
                    have h9 := HFP.out
                    rw [hkd, fillP, if_pos hfx] at h9
                    exact h9)
                  have hlf3 : leftP notes (body.drop (k + 1)) (q ++ notesOf notes x) + 1 ≤ M := by rw [← leftP_cons, ← hkd]; exact hlf2
                  have hqM3 : (q ++ notesOf notes x).length ≤ 100000 := by
                    have : (q ++ notesOf notes x).length ≤ leftP notes (body.drop (k + 1)) (q ++ notesOf notes x) := by unfold leftP; omega
                    omega
                  have HSTP1 := Lib.hid hstp1
                  have HLX := Lib.hid (HLQ.out.app (lnsB_notes HLN.out x))
                  have HBT := Lib.hid (show (body.drop a).take (l + 1) = (body.drop a).take l ++ [x] from take_one (by rw [List.getElem?_drop, ← HKL.out]; exact hx))
                  have HNX := Lib.hid (HNT0.out x (List.mem_of_getElem? hx))
                  obtain ⟨bb, ob, cs, eA, hbb, _, hrep, hcell⟩ := Lay.row_at HR1.out hx
                  subst eA
                  obtain ⟨G1, g1, e1, G2, g2, e2, rfl, he1, he2, hr1, hr2⟩ := kLn_rep.1 hrep
                  have y0 := hcell 0 _ rfl
                  have y1 := hcell 1 _ rfl
                  have y2 := hcell 2 _ rfl
                  have y3 := hcell 3 _ rfl
                  rw [kLn_sz] at y0 y1 y2 y3
                  rw [Nat.add_zero] at y0
                  have hxl := HLB.out x (List.mem_of_getElem? hx)
                  have HXN := Lib.hid (show notesOf notes x = notesUp notes x.nts from rfl)
                  obtain ⟨xf, xu, xg, xn⟩ := x
                  simp only at y0 y1 y2 y3 hr1 hr2 hxl HNX HXN
                  have eg1 : g1 ≤ 1000000 := by have := Lay.row_len hr1; omega
                  have EG2 := Lib.hid (Lay.row_len hr2)
                  have eg2 : g2 ≤ 1000000 := by have := EG2.out; omega
                  have HXC := Lib.hid HPC.out.ext
                  have HCP := Lib.hid (fun X (hX : Ext wc X) => rcopy_any _ X (⟨xf, xu, xg, xn⟩ : Ln) G1 G2 g1 g2 e1 e2 (Lay.row_ext hr1 (HXC.out.trans hX)) (Lay.row_ext hr2 (HXC.out.trans hX)) he1 he2 (by omega) (by omega))
                  have HBX := Lib.hid HPC.out.box
                  have HRN := Lib.hid hr2
                  have HBC := Lib.hid (fun X (hX : Ext w X) => (show X.cell? ⟨bb, ob + k * 4, none⟩ = some (.int .i64 xf) ∧ X.cell? ⟨bb, ob + k * 4 + 1, none⟩ = some (.int .i64 xu) ∧ X.cell? ⟨bb, ob + k * 4 + 2, none⟩ = some (.slice G1 g1 e1) ∧ X.cell? ⟨bb, ob + k * 4 + 3, none⟩ = some (.slice G2 g2 e2) from
                    ⟨(hX.cells.1 bb _ hbb).trans y0, (hX.cells.1 bb _ hbb).trans y1, (hX.cells.1 bb _ hbb).trans y2, (hX.cells.1 bb _ hbb).trans y3⟩))
                  have HS0 := Lib.hid (fun X (hX : Ext wc X) => (show X.cell? ⟨z, 4, none⟩ = some (.slice A7 l c7) ∧ X.cell? ⟨bb, ob + k * 4, none⟩ = some (.int .i64 xf) ∧ X.cell? ⟨bb, ob + k * 4 + 1, none⟩ = some (.int .i64 xu) ∧ X.cell? ⟨bb, ob + k * 4 + 2, none⟩ = some (.slice G1 g1 e1) ∧ X.cell? ⟨bb, ob + k * 4 + 3, none⟩ = some (.slice G2 g2 e2) from
                    ⟨cell_of ((hX.block _ (lt_of_block HBX.out)).trans HBX.out) (i := 4) rfl, HBC.out X (HXC.out.trans hX)⟩))
                  have HS9 := Lib.hid (fun (w9 : World) (hb : w9.heap[z]? = some (.cells #[.int .i64 0, .int .i64 0, .int .i64 0, .int .i64 0, .slice A7 l c7, .slice A8 s c8] 84 (0, 0))) (hx9 : Ext w w9) => (show w9.cell? ⟨z, 4, none⟩ = some (.slice A7 l c7) ∧ w9.cell? ⟨bb, ob + k * 4, none⟩ = some (.int .i64 xf) ∧ w9.cell? ⟨bb, ob + k * 4 + 1, none⟩ = some (.int .i64 xu) ∧ w9.cell? ⟨bb, ob + k * 4 + 2, none⟩ = some (.slice G1 g1 e1) ∧ w9.cell? ⟨bb, ob + k * 4 + 3, none⟩ = some (.slice G2 g2 e2) from
                    ⟨cell_of hb (i := 4) rfl, HBC.out w9 hx9⟩))
                  have HLT := Lib.hid (fun X (hX : Ext wc X) (B1 B2 : Option Addr) (m1 d1 m2 d2 : Nat) (h1 : m1 ≤ d1) (h2 : m2 ≤ d2) (k1 : kInt.row X (fun j => wc.heap.size ≤ j) B1 m1 xg) (k2 : kInt.row X (fun j => wc.heap.size ≤ j) B2 m2 xn) =>
                    HPC.out.line hX (x := (⟨xf, xu, xg, xn⟩ : Ln)) (cs := #[.int .i64 xf, .int .i64 xu, .slice B1 m1 d1, .slice B2 m2 d2]) (kLn_rep.2 ⟨B1, m1, d1, B2, m2, d2, rfl, h1, h2, k1, k2⟩) (by rw [hn7]; omega))
                  clear hrep hcell y0 y1 y2 y3 hr1 hr2 he1 he2 hxl hkd
                  go_upto_region 13 with (fail)
                  have hS0 : (fun X : World => X.cell? ⟨z, 4, none⟩ = some (.slice A7 l c7) ∧ X.cell? ⟨bb, ob + k * 4, none⟩ = some (.int .i64 xf) ∧ X.cell? ⟨bb, ob + k * 4 + 1, none⟩ = some (.int .i64 xu) ∧ X.cell? ⟨bb, ob + k * 4 + 2, none⟩ = some (.slice G1 g1 e1) ∧ X.cell? ⟨bb, ob + k * 4 + 3, none⟩ = some (.slice G2 g2 e2)) wc.drew := HS0.out _ (Ext.refl _).drew
                  refine wp_region_E (fun X : World => X.cell? ⟨z, 4, none⟩ = some (.slice A7 l c7) ∧ X.cell? ⟨bb, ob + k * 4, none⟩ = some (.int .i64 xf) ∧ X.cell? ⟨bb, ob + k * 4 + 1, none⟩ = some (.int .i64 xu) ∧ X.cell? ⟨bb, ob + k * 4 + 2, none⟩ = some (.slice G1 g1 e1) ∧ X.cell? ⟨bb, ob + k * 4 + 3, none⟩ = some (.slice G2 g2 e2)) (fun _ => True) (fun i => i == 10) (by kernel_rfl) ?_
                  refine wpE_takeS (i := 0) (d := some 68) (v := .pointer (some ⟨z, 4, none⟩)) rfl rfl (by kernel_rfl) (by kernel_rfl) (by kernel_rfl) (by kernel_rfl) (fun _ _ _ h => h) (by rfl) ?hyl1 hS0 trivial ?gol1
                  case hyl1 =>
                    intro w9 hT9
                    clear hT9; go_simp
                  (try simp only [Act.put, List.setIfInBounds_toArray, List.set_cons_zero, List.set_cons_succ])
                  refine wpE_takeS (i := 1) (d := some 69) (v := .slice A7 l c7) rfl rfl (by kernel_rfl) (by kernel_rfl) (by kernel_rfl) (by kernel_rfl) (fun _ _ _ h => h) (by rfl) ?hyl2 hS0 trivial ?gol2
                  case hyl2 =>
                    intro w9 hT9
                    obtain ⟨y0, y1, y2, y3, y4⟩ := hT9; go_simp
                  (try simp only [Act.put, List.setIfInBounds_toArray, List.set_cons_zero, List.set_cons_succ])
                  refine wpE_takeS (i := 2) (d := some 70) (v := .slice (some ⟨bb, ob, none⟩) n c) rfl rfl (by kernel_rfl) (by kernel_rfl) (by kernel_rfl) (by kernel_rfl) (fun _ _ _ h => h) (by rfl) ?hyl3 hS0 trivial ?gol3
                  case hyl3 =>
                    intro w9 hT9
                    clear hT9; go_simp
                  (try simp only [Act.put, List.setIfInBounds_toArray, List.set_cons_zero, List.set_cons_succ])
                  refine wpE_takeS (i := 3) (d := some 71) (v := .int .i64 (k : Int)) rfl rfl (by kernel_rfl) (by kernel_rfl) (by kernel_rfl) (by kernel_rfl) (fun _ _ _ h => h) (by rfl) ?hyl4 hS0 trivial ?gol4
                  case hyl4 =>
                    intro w9 hT9
                    clear hT9; go_simp
                  (try simp only [Act.put, List.setIfInBounds_toArray, List.set_cons_zero, List.set_cons_succ])
                  refine wpE_takeS (i := 4) (d := some 72) (v := .pointer (some ⟨bb, ob + k * 4, none⟩)) rfl rfl (by kernel_rfl) (by kernel_rfl) (by kernel_rfl) (by kernel_rfl) (fun _ _ _ h => h) (by rfl) ?hyl5 hS0 trivial ?gol5
                  case hyl5 =>
                    intro w9 hT9
                    clear hT9; go_simp
                  (try simp only [Act.put, List.setIfInBounds_toArray, List.set_cons_zero, List.set_cons_succ])
                  refine wpE_takeS (i := 5) (d := some 73) (v := .agg #[.int .i64 xf, .int .i64 xu, .slice G1 g1 e1, .slice G2 g2 e2]) rfl rfl (by kernel_rfl) (by kernel_rfl) (by kernel_rfl) (by kernel_rfl) (fun _ _ _ h => h) (by rfl) ?hyl6 hS0 trivial ?gol6
                  case hyl6 =>
                    intro w9 hT9
                    obtain ⟨y0, y1, y2, y3, y4⟩ := hT9; go_simp
                  (try simp only [Act.put, List.setIfInBounds_toArray, List.set_cons_zero, List.set_cons_succ])
                  refine wpE_all (rs := [6]) (by kernel_rfl) (by simp) ?_
                  refine AllE.cons rfl (fun K hK => ?_) AllE.nil
                  simp only [List.getElem_toArray, List.getElem_cons_succ, List.getElem_cons_zero]
                  go_simp
                  go_at_call 181
                  refine (HCP.out _ (Ext.refl _).drew).mono ?_
                  rintro z9 wG ⟨v9, rfl, hv9, hxG⟩
                  obtain ⟨B1, m1, d1, B2, m2, d2, rfl, hm1, hm2, hr1, hr2⟩ := hv9
                  have hcur : Ext wc wG := (Ext.refl _).drew.trans hxG
                  simp only []
                  refine hK.out _ _ ⟨fun _ => (HS0.out _ hcur), trivial⟩ (fun _ => ?_)
                  clear hK K
                  have hS0 := (HS0.out _ hcur)
                  (try simp only [Act.put, List.setIfInBounds_toArray, List.set_cons_zero, List.set_cons_succ])
                  refine wpE_all (rs := [7]) (by kernel_rfl) (by simp) ?_
                  refine AllE.cons rfl (fun K hK => ?_) AllE.nil
                  simp only [List.getElem_toArray, List.getElem_cons_succ, List.getElem_cons_zero]
                  go_simp
                  refine hK.out _ _ ⟨fun _ => (HS0.out _ (hcur.alloc (.cells #[.int .i64 xf, .int .i64 xu, .slice B1 m1 d1, .slice B2 m2 d2] 86))), trivial⟩ (fun _ => ?_)
                  clear hK K
                  have hS0 := (HS0.out _ (hcur.alloc (.cells #[.int .i64 xf, .int .i64 xu, .slice B1 m1 d1, .slice B2 m2 d2] 86)))
                  (try simp only [Act.put, List.setIfInBounds_toArray, List.set_cons_zero, List.set_cons_succ])
                  refine wpE_all (rs := [8]) (by kernel_rfl) (by simp) ?_
                  refine AllE.cons rfl (fun K hK => ?_) AllE.nil
                  simp only [List.getElem_toArray, List.getElem_cons_succ, List.getElem_cons_zero]
                  obtain ⟨A9, c9, w9, hrun, hb9, hx9, hp9⟩ := HLT.out wG hcur B1 B2 m1 d1 m2 d2 hm1 hm2 hr1 hr2
                  have HC9 := Lib.hid (HS9.out w9 hb9 hx9)
                  have HB9 := Lib.hid hb9
                  have HP9 := Lib.hid hp9
                  clear hb9 hp9 hx9 hr1 hr2
                  refine step_append_tm (s := .tmp 69) (x := .tmp 75) hrun rfl rfl rfl rfl rfl ?_
                  refine hK.out _ _ ⟨fun _ => HC9.out, trivial⟩ (fun _ => ?_)
                  clear hK K
                  have hS0 := HC9.out
                  (try simp only [Act.put, List.setIfInBounds_toArray, List.set_cons_zero, List.set_cons_succ])
                  refine wpE_takeS (i := 9) (d := some 77) (v := .pointer (some ⟨z, 4, none⟩)) rfl rfl (by kernel_rfl) (by kernel_rfl) (by kernel_rfl) (by kernel_rfl) (fun _ _ _ h => h) (by rfl) ?hyl7 hS0 trivial ?gol7
                  case hyl7 =>
                    intro w9 hT9
                    clear hT9; go_simp
                  (try simp only [Act.put, List.setIfInBounds_toArray, List.set_cons_zero, List.set_cons_succ])
                  refine wpE_all (rs := [10]) (by kernel_rfl) (by simp) ?_
                  refine AllE.cons rfl (fun K hK => ?_) AllE.nil
                  simp only [List.getElem_toArray, List.getElem_cons_succ, List.getElem_cons_zero]
                  have z5 := HC9.out.1
                  have z6 := frozen_of HB9.out 4
                  go_simp
                  refine hK.out _ _ ⟨fun h => absurd h (by simp), trivial⟩ (fun _ => ?_)
                  clear hK K
                  (try simp only [Act.put, List.setIfInBounds_toArray, List.set_cons_zero, List.set_cons_succ])
                  refine wpE_done (by kernel_rfl) ?_ _
                  go_wp2_with fail
                  rw [hn7] at HP9
                  obtain ⟨W9, hW9⟩ : ∃ W9, w9.setCell ⟨z, 4, none⟩ (.slice A9 (l + 1) c9) = W9 := ⟨_, rfl⟩
                  rw [hn7] at hrun
                  try rw [hn7]
                  rw [hW9]
                  rw [hW9, ← HBT.out] at HP9
                  clear HS0 HS9 HLT HCP HC9 HB9 hrun hW9
                  go_loopw [10, 13] (fun s10 s13 w' => VsC w wr z (.slice Aq ql cq) ((body.drop a).take (l + 1)) (q.take s) (q.drop s) notes xn s10 s13 w') (fun _ s13 _ => toM g2 s13)
                  case atStart => exact ⟨0, _, _, by omega, rfl, by
                    have h9 := HP9.out
                    simpa [notesUp] using h9⟩
                  case round =>
                    clear HP9
                    obtain ⟨j, Bv, Nv, hj, rfl, hpg0⟩ := hrel
                    rename World => wj
                    rw [← EG2.out] at hj
                    obtain ⟨u, hu⟩ : ∃ u, (q.drop s ++ notesUp notes (xn.take j)).length = u := ⟨_, rfl⟩
                    have hul : u ≤ 100000 := by
                      rw [← hu, List.length_append, hmq]
                      have := notesUp_le notes xn j
                      rw [List.length_append, HXN.out] at hqM3
                      omega
                    obtain ⟨A0, c0, rfl, hcu⟩ := hpg0.queV hu
                    have HPJ := Lib.hid hpg0
                    obtain ⟨j0, j1, j2, j3⟩ := HBC.out _ hpg0.ext
                    clear hpg0
                    by_cases hjl : j < g2
                    case pos =>
                      have hJ : (j : Int) < (g2 : Int) := by omega
                      obtain ⟨y, hy⟩ : ∃ y, xn[j]? = some y := ⟨_, List.getElem?_eq_getElem (by have := EG2.out; omega)⟩
                      have hyb := HNX.out y (List.mem_of_getElem? hy)
                      obtain ⟨yn, rfl⟩ : ∃ yn : Nat, y = (yn : Int) := ⟨y.toNat, by omega⟩
                      obtain ⟨b2, o2, eG, hb2, _, hc2⟩ := int_at (Lay.row_ext HRN.out HPJ.out.ext) hy
                      subst eG
                      obtain ⟨nl, hnl⟩ : ∃ nl, notes[yn]? = some nl := ⟨_, List.getElem?_eq_getElem (by omega)⟩
                      obtain ⟨b3, o3, cs3, eN, hb3, _, hrep3, hcell3⟩ := Lay.row_at HR2.out hnl
                      subst eN
                      obtain ⟨A3, n3, c3, rfl, hn3, hr3⟩ := hrep3
                      have x3 := hcell3 0 _ rfl
                      rw [show kLs.sz = 1 from rfl, Nat.mul_one, Nat.add_zero] at x3
                      have x3' := (HPJ.out.ext.cells.1 b3 _ hb3).trans x3
                      have hyI : (yn : Int) < (n' : Int) := by have := HE2.out; omega
                      have hn3l : n3 ≤ nl.length ∧ nl.length ≤ n3 := by have := Lay.row_len hr3; omega
                      have HNS := Lib.hid (notesUp_succ notes xn hy)
                      have hq9 : u + n3 ≤ 100000000 := by
                        have h9 := notesUp_le notes xn (j + 1)
                        rw [HNS.out, List.length_append] at h9
                        rw [List.length_append, HXN.out] at hqM3
                        rw [Int.toNat_natCast, hnl] at h9
                        simp only [Option.getD_some] at h9
                        omega
                      obtain ⟨A4, c4, w4, hrun4, hx4, hp4⟩ := HPJ.out.more (Lay.row_ext (Lay.row_mono (Q := fun j => j < w.heap.size) hr3 fun j _ hl => hl) HPJ.out.ext) c3 (by rw [hu]; exact hq9)
                      rw [hu] at hrun4 hp4
                      have HRUN4 := Lib.hid hrun4
                      have HREL := Lib.hid (show VsC w wr z (.slice Aq ql cq) ((body.drop a).take (l + 1)) (q.take s) (q.drop s) notes xn (.slice A4 (u + n3) c4) (.int .i64 ((j : Int) + 1)) w4 from ⟨j + 1, _, _, by have := EG2.out; omega, by simp, by
                        rw [HNS.out, Int.toNat_natCast, hnl, ← List.append_assoc]
                        exact hp4⟩)
                      clear hy hyb hnl hcell3 hr3 x3 hrun4 hx4 hp4 hq9 hn3l
                      go_wp2_with (first | (at_builtin; refine wpList_append_run (s := .tmp 88) (x := .tmp 99) HRUN4.out rfl rfl rfl rfl rfl ?_))
                      go_roundw
                      case rel => exact HREL.out
                      case measure => simp only [toM]; omega
                    obtain rfl : j = g2 := by omega
                    have hnj : ¬ ((j : Int) < (j : Int)) := by omega
                    have HPD := Lib.hid (show PgW w wr z (.slice Aq ql cq) ((body.drop a).take (l + 1)) ((q ++ notesUp notes xn).take s) ((q ++ notesUp notes xn).drop s) (.slice A0 u c0) Bv Nv wj by
                      have h9 := HPJ.out
                      rw [EG2.out, List.take_length] at h9
                      rw [take_more hsq, drop_more hsq]
                      exact h9)
                    go_wp2_with fail
                    rw [HXN.out] at HFP2 hlf3 hqM3 HSTP1 HLX hstp2
                    obtain ⟨Q, hQ⟩ : ∃ Q, q ++ notesUp notes xn = Q := ⟨_, rfl⟩
                    rw [hQ] at HPD HFP2 hlf3 hqM3 HSTP1 HLX hstp2
                    clear hQ HPJ j0 j1 j2 j3 HNX HLQ hu hul hcu
                    go_loopw [10] (fun s10 w' => VsD w wr z (.slice Aq ql cq) h ((body.drop a).take (l + 1)) Q l s s10 w') (fun s10 _ => slen s10)
                    case atStart => exact ⟨s, _, _, Nat.le_refl _, hstp2, HPD.out⟩
                    case round =>
                      clear HPD
                      obtain ⟨i, Bv, Nv, hsi, hiP, hpg0⟩ := hrel
                      rename World => wv
                      have hiQ : i ≤ Q.length := by have := HSTP1.out.le; omega
                      have hn8 : (Q.take i).length = i := by rw [List.length_take]; omega
                      have hn7' : ((body.drop a).take (l + 1)).length = l + 1 := by rw [HBT.out, List.length_append, hn7]; rfl
                      obtain ⟨m, hmq⟩ : ∃ m, (Q.drop i).length = m := ⟨_, rfl⟩
                      have hms1 : m ≤ Q.length - i := by rw [← hmq, List.length_drop]; exact Nat.le_refl _
                      have hms2 : Q.length - i ≤ m := by rw [← hmq, List.length_drop]; exact Nat.le_refl _
                      obtain ⟨A8, c8, rfl, hc8⟩ := hpg0.noteV hn8
                      obtain ⟨A7, c7, rfl, hc7⟩ := hpg0.bodyV hn7'
                      obtain ⟨A0, c0, rfl, hcm⟩ := hpg0.queV hmq
                      have HPG := Lib.hid hpg0
                      clear hpg0
                      have HSS := Lib.hid (show_step (h := h) (q' := Q) hsi hiP)
                      obtain ⟨T, hT⟩ : ∃ T, decide (0 < m ∧ (l : Int) + i + 3 ≤ h) = T := ⟨_, rfl⟩
                      have HT := Lib.hid hT
                      clear hT
                      go_upto_region 18 with (fail)
                      go_cut [115] (fun s115 wx => s115 = .bool T ∧ Ext wv wx)
                      case first =>
                        by_cases hm0 : 0 < m
                        case neg =>
                          have hm0' : ¬ (0 : Int) < (m : Int) := by omega
                          have hm0b : decide ((0 : Int) < (m : Int)) = false := decide_eq_false hm0'
                          have hTf : T = false := by rw [← HT.out]; exact decide_eq_false fun e => by omega
                          subst hTf
                          go_quiet (fail)
                          go_wp2
                          go_meet
                          case rel => exact ⟨rfl, (Ext.refl _).drewN _⟩
                        have hm0' : (0 : Int) < (m : Int) := by omega
                        obtain ⟨mn, hmn⟩ : ∃ mn, min (i : Int) 1 = mn := ⟨_, rfl⟩
                        obtain ⟨us, hus⟩ : ∃ us, usedN (l + 1) i = us := ⟨_, rfl⟩
                        have husb : 0 ≤ us ∧ us ≤ 300000 := by rw [← hus]; unfold usedN; omega
                        have hmnb : 0 ≤ mn ∧ mn ≤ 1 := by omega
                        have HUS := Lib.hid (fun X => (show Calls Tryz.prog 183 #[.agg #[.int .i64 0, .int .i64 0, .int .i64 0, .int .i64 0, .slice A7 (l + 1) c7, .slice A8 i c8]] X (fun e w' => e = .returned (.int .i64 us) ∧ Ext X w') from by rw [← hus]; exact rused_any X 0 0 0 0 A7 A8 (l + 1) c7 i c8 (by omega) (by omega)))
                        have HTE := Lib.hid (show decide (us + 2 - mn ≤ h) = T by
                          rw [← HT.out]
                          refine decide_eq_decide.2 ?_
                          rw [← hus, ← hmn]
                          unfold usedN
                          omega)
                        obtain ⟨husb1, husb2⟩ := husb
                        obtain ⟨hmnb1, hmnb2⟩ := hmnb
                        have i1 : IntKind.i64.wrap (us + 2) = us + 2 := IntWalk.i64_in _ (by omega)
                        have i2 : IntKind.i64.wrap (us + 2 - mn) = us + 2 - mn := IntWalk.i64_in _ (by omega)
                        have HBX := Lib.hid HPG.out.box
                        have HS0 := Lib.hid (fun X (hX : Ext wv X) => (show X.cell? ⟨z, 0, none⟩ = some (.int .i64 0) ∧ X.cell? ⟨z, 1, none⟩ = some (.int .i64 0) ∧ X.cell? ⟨z, 2, none⟩ = some (.int .i64 0) ∧ X.cell? ⟨z, 3, none⟩ = some (.int .i64 0) ∧ X.cell? ⟨z, 4, none⟩ = some (.slice A7 (l + 1) c7) ∧ X.cell? ⟨z, 5, none⟩ = some (.slice A8 i c8) from
                          have h9 := (hX.block _ (lt_of_block HBX.out)).trans HBX.out
                          ⟨cell_of h9 (i := 0) rfl, cell_of h9 (i := 1) rfl, cell_of h9 (i := 2) rfl, cell_of h9 (i := 3) rfl, cell_of h9 (i := 4) rfl, cell_of h9 (i := 5) rfl⟩))
                        clear hus
                        have hS0 : (fun X : World => X.cell? ⟨z, 0, none⟩ = some (.int .i64 0) ∧ X.cell? ⟨z, 1, none⟩ = some (.int .i64 0) ∧ X.cell? ⟨z, 2, none⟩ = some (.int .i64 0) ∧ X.cell? ⟨z, 3, none⟩ = some (.int .i64 0) ∧ X.cell? ⟨z, 4, none⟩ = some (.slice A7 (l + 1) c7) ∧ X.cell? ⟨z, 5, none⟩ = some (.slice A8 i c8)) wv.drew := HS0.out _ (Ext.refl _).drew
                        refine wp_region_E (fun X : World => X.cell? ⟨z, 0, none⟩ = some (.int .i64 0) ∧ X.cell? ⟨z, 1, none⟩ = some (.int .i64 0) ∧ X.cell? ⟨z, 2, none⟩ = some (.int .i64 0) ∧ X.cell? ⟨z, 3, none⟩ = some (.int .i64 0) ∧ X.cell? ⟨z, 4, none⟩ = some (.slice A7 (l + 1) c7) ∧ X.cell? ⟨z, 5, none⟩ = some (.slice A8 i c8)) (fun _ => True) (fun i => false) (by kernel_rfl) ?_
                        refine wpE_takeS (i := 0) (d := some 101) (v := .slice A0 m c0) rfl rfl (by kernel_rfl) (by kernel_rfl) (by kernel_rfl) (by kernel_rfl) (fun _ _ _ h => h) (by rfl) ?hyu1 hS0 trivial ?gou1
                        case hyu1 =>
                          intro w9 hT9
                          clear hT9; go_simp
                        (try simp only [Act.put, List.setIfInBounds_toArray, List.set_cons_zero, List.set_cons_succ])
                        refine wpE_takeS (i := 1) (d := some 102) (v := .int .i64 (m : Int)) rfl rfl (by kernel_rfl) (by kernel_rfl) (by kernel_rfl) (by kernel_rfl) (fun _ _ _ h => h) (by rfl) ?hyu2 hS0 trivial ?gou2
                        case hyu2 =>
                          intro w9 hT9
                          clear hT9; go_simp
                        (try simp only [Act.put, List.setIfInBounds_toArray, List.set_cons_zero, List.set_cons_succ])
                        refine wpE_takeS (i := 2) (d := some 103) (v := .bool true) rfl rfl (by kernel_rfl) (by kernel_rfl) (by kernel_rfl) (by kernel_rfl) (fun _ _ _ h => h) (by rfl) ?hyu3 hS0 trivial ?gou3
                        case hyu3 =>
                          intro w9 hT9
                          clear hT9; go_simp
                        (try simp only [Act.put, List.setIfInBounds_toArray, List.set_cons_zero, List.set_cons_succ])
                        refine wpE_takeS (i := 3) (d := some 104) (v := .bool true) rfl rfl (by kernel_rfl) (by kernel_rfl) (by kernel_rfl) (by kernel_rfl) (fun _ _ _ h => h) (by rfl) ?hyu4 hS0 trivial ?gou4
                        case hyu4 =>
                          intro w9 hT9
                          clear hT9; go_simp
                        (try simp only [Act.put, List.setIfInBounds_toArray, List.set_cons_zero, List.set_cons_succ])
                        refine wpE_takeS (i := 4) (d := some 105) (v := .agg #[.int .i64 0, .int .i64 0, .int .i64 0, .int .i64 0, .slice A7 (l + 1) c7, .slice A8 i c8]) rfl rfl (by kernel_rfl) (by kernel_rfl) (by kernel_rfl) (by kernel_rfl) (fun _ _ _ h => h) (by rfl) ?hyu5 hS0 trivial ?gou5
                        case hyu5 =>
                          intro w9 hT9
                          obtain ⟨y0, y1, y2, y3, y4, y5⟩ := hT9; go_simp
                        (try simp only [Act.put, List.setIfInBounds_toArray, List.set_cons_zero, List.set_cons_succ])
                        refine wpE_takeS (i := 7) (d := some 108) (v := .pointer (some ⟨z, 5, none⟩)) rfl rfl (by kernel_rfl) (by kernel_rfl) (by kernel_rfl) (by kernel_rfl) (fun _ _ _ h => h) (by rfl) ?hyu6 hS0 trivial ?gou6
                        case hyu6 =>
                          intro w9 hT9
                          clear hT9; go_simp
                        (try simp only [Act.put, List.setIfInBounds_toArray, List.set_cons_zero, List.set_cons_succ])
                        refine wpE_takeS (i := 8) (d := some 109) (v := .slice A8 i c8) rfl rfl (by kernel_rfl) (by kernel_rfl) (by kernel_rfl) (by kernel_rfl) (fun _ _ _ h => h) (by rfl) ?hyu7 hS0 trivial ?gou7
                        case hyu7 =>
                          intro w9 hT9
                          obtain ⟨y0, y1, y2, y3, y4, y5⟩ := hT9; go_simp
                        (try simp only [Act.put, List.setIfInBounds_toArray, List.set_cons_zero, List.set_cons_succ])
                        refine wpE_takeS (i := 9) (d := some 110) (v := .int .i64 (i : Int)) rfl rfl (by kernel_rfl) (by kernel_rfl) (by kernel_rfl) (by kernel_rfl) (fun _ _ _ h => h) (by rfl) ?hyu8 hS0 trivial ?gou8
                        case hyu8 =>
                          intro w9 hT9
                          clear hT9; go_simp
                        (try simp only [Act.put, List.setIfInBounds_toArray, List.set_cons_zero, List.set_cons_succ])
                        refine wpE_takeS (i := 10) (d := some 111) (v := .int .i64 mn) rfl rfl (by kernel_rfl) (by kernel_rfl) (by kernel_rfl) (by kernel_rfl) (fun _ _ _ h => h) (by rfl) ?hyu9 hS0 trivial ?gou9
                        case hyu9 =>
                          intro w9 hT9
                          clear hT9; go_simp
                        (try simp only [Act.put, List.setIfInBounds_toArray, List.set_cons_zero, List.set_cons_succ])
                        refine wpE_takeS (i := 12) (d := some 113) (v := .int .i64 h) rfl rfl (by kernel_rfl) (by kernel_rfl) (by kernel_rfl) (by kernel_rfl) (fun _ _ _ h => h) (by rfl) ?hyu10 hS0 trivial ?gou10
                        case hyu10 =>
                          intro w9 hT9
                          clear hT9; go_simp
                        (try simp only [Act.put, List.setIfInBounds_toArray, List.set_cons_zero, List.set_cons_succ])
                        refine wpE_all (rs := [5]) (by kernel_rfl) (by simp) ?_
                        refine AllE.cons rfl (fun K hK => ?_) AllE.nil
                        simp only [List.getElem_toArray, List.getElem_cons_succ, List.getElem_cons_zero]
                        go_simp
                        go_at_call 183
                        refine (HUS.out _).mono ?_
                        rintro z9 wG ⟨rfl, hxG⟩
                        have hcur : Ext wv wG := (Ext.refl _).drew.trans hxG
                        simp only []
                        refine hK.out _ _ ⟨fun _ => (HS0.out _ hcur), trivial⟩ (fun _ => ?_)
                        clear hK K
                        have hS0 := (HS0.out _ hcur)
                        (try simp only [Act.put, List.setIfInBounds_toArray, List.set_cons_zero, List.set_cons_succ])
                        refine wpE_takeS (i := 6) (d := some 107) (v := .int .i64 (us + 2)) rfl rfl (by kernel_rfl) (by kernel_rfl) (by kernel_rfl) (by kernel_rfl) (fun _ _ _ h => h) (by rfl) ?hyu11 hS0 trivial ?gou11
                        case hyu11 =>
                          intro w9 hT9
                          clear hT9; go_simp
                        (try simp only [Act.put, List.setIfInBounds_toArray, List.set_cons_zero, List.set_cons_succ])
                        refine wpE_takeS (i := 11) (d := some 112) (v := .int .i64 (us + 2 - mn)) rfl rfl (by kernel_rfl) (by kernel_rfl) (by kernel_rfl) (by kernel_rfl) (fun _ _ _ h => h) (by rfl) ?hyu12 hS0 trivial ?gou12
                        case hyu12 =>
                          intro w9 hT9
                          clear hT9; go_simp
                        (try simp only [Act.put, List.setIfInBounds_toArray, List.set_cons_zero, List.set_cons_succ])
                        refine wpE_takeS (i := 13) (d := some 114) (v := .bool T) rfl rfl (by kernel_rfl) (by kernel_rfl) (by kernel_rfl) (by kernel_rfl) (fun _ _ _ h => h) (by rfl) ?hyu13 hS0 trivial ?gou13
                        case hyu13 =>
                          intro w9 hT9
                          clear hT9; have HTE' := HTE.out; go_simp
                        (try simp only [Act.put, List.setIfInBounds_toArray, List.set_cons_zero, List.set_cons_succ])
                        refine wpE_takeS (i := 14) (d := some 115) (v := .bool T) rfl rfl (by kernel_rfl) (by kernel_rfl) (by kernel_rfl) (by kernel_rfl) (fun _ _ _ h => h) (by rfl) ?hyu14 hS0 trivial ?gou14
                        case hyu14 =>
                          intro w9 hT9
                          clear hT9; go_simp
                        (try simp only [Act.put, List.setIfInBounds_toArray, List.set_cons_zero, List.set_cons_succ])
                        refine wpE_done (by kernel_rfl) ?_ _
                        go_wp2_with fail
                        go_meet
                        case rel => exact ⟨rfl, hcur⟩
                      case rest =>
                        obtain ⟨rfl, hxc⟩ := hcut
                        rename World => wd
                        have HPG2 := Lib.hid (HPG.out.mv hxc)
                        clear HPG hxc
                        cases T with
                        | true =>
                          obtain ⟨hm0, hl3⟩ := of_decide_eq_true HT.out
                          have hst3 := HSS.out.1 ⟨by omega, hl3⟩
                          have HLQ := Lib.hid HLX.out
                          obtain ⟨x, hx⟩ : ∃ x, Q[i]? = some x := ⟨_, List.getElem?_eq_getElem (by omega)⟩
                          have hx0 : (Q.drop i)[0]? = some x := by rw [List.getElem?_drop]; exact hx
                          obtain ⟨g, o, cs, ea, hgl, _, hrep, hcell⟩ := Lay.row_at (Lay.que_row HPG2.out.qo) hx0
                          subst ea
                          obtain ⟨G1, g1, e1, G2, g2, e2, rfl, he1, he2, hr1, hr2⟩ := kLn_rep.1 hrep
                          have y0 := hcell 0 _ rfl
                          have y1 := hcell 1 _ rfl
                          have y2 := hcell 2 _ rfl
                          have y3 := hcell 3 _ rfl
                          rw [Nat.zero_mul, Nat.add_zero] at y0 y1 y2 y3
                          try rw [Nat.add_zero] at y0
                          have hxl := HLQ.out x (List.mem_of_getElem? hx)
                          obtain ⟨xf, xu, xg, xn⟩ := x
                          simp only at y0 y1 y2 y3 hr1 hr2 hxl
                          have eg1 : g1 ≤ 1000000 := by have := Lay.row_len hr1; omega
                          have eg2 : g2 ≤ 1000000 := by have := Lay.row_len hr2; omega
                          have HCP := Lib.hid (fun X (hX : Ext wd X) => rcopy_any _ X (⟨xf, xu, xg, xn⟩ : Ln) G1 G2 g1 g2 e1 e2 (Lay.row_ext hr1 hX) (Lay.row_ext hr2 hX) he1 he2 (by omega) (by omega))
                          have HBX := Lib.hid HPG2.out.box
                          have HS0 := Lib.hid (fun X (hX : Ext wd X) => (show X.cell? ⟨z, 5, none⟩ = some (.slice A8 i c8) ∧ X.cell? ⟨g, o, none⟩ = some (.int .i64 xf) ∧ X.cell? ⟨g, o + 1, none⟩ = some (.int .i64 xu) ∧ X.cell? ⟨g, o + 2, none⟩ = some (.slice G1 g1 e1) ∧ X.cell? ⟨g, o + 3, none⟩ = some (.slice G2 g2 e2) from
                            ⟨cell_of ((hX.block _ (lt_of_block HBX.out)).trans HBX.out) (i := 5) rfl, (hX.cells.1 g _ hgl).trans y0, (hX.cells.1 g _ hgl).trans y1, (hX.cells.1 g _ hgl).trans y2, (hX.cells.1 g _ hgl).trans y3⟩))
                          have hng : (Value.slice A8 i c8).ownBlock ≠ some g := fun e => HPG2.out.dnq g e rfl
                          have HS9 := Lib.hid (fun X (hX : Ext wd X) (w9 : World) (hb : w9.heap[z]? = some (.cells #[.int .i64 0, .int .i64 0, .int .i64 0, .int .i64 0, .slice A7 (l + 1) c7, .slice A8 i c8] 84 (0, 0))) (hk : ∀ j, j < X.heap.size → (Value.slice A8 i c8).ownBlock ≠ some j → w9.heap[j]? = X.heap[j]?) => (show w9.cell? ⟨z, 5, none⟩ = some (.slice A8 i c8) ∧ w9.cell? ⟨g, o, none⟩ = some (.int .i64 xf) ∧ w9.cell? ⟨g, o + 1, none⟩ = some (.int .i64 xu) ∧ w9.cell? ⟨g, o + 2, none⟩ = some (.slice G1 g1 e1) ∧ w9.cell? ⟨g, o + 3, none⟩ = some (.slice G2 g2 e2) from
                            have h9 := HS0.out X hX
                            have h8 : w9.heap[g]? = X.heap[g]? := hk g (Nat.lt_of_lt_of_le hgl hX.lt) hng
                            ⟨cell_of hb (i := 5) rfl, (World.cell?_of_block (a := ⟨g, _, none⟩) h8).trans h9.2.1, (World.cell?_of_block (a := ⟨g, _, none⟩) h8).trans h9.2.2.1, (World.cell?_of_block (a := ⟨g, _, none⟩) h8).trans h9.2.2.2.1, (World.cell?_of_block (a := ⟨g, _, none⟩) h8).trans h9.2.2.2.2⟩))
                          obtain ⟨A5, c5, hq5, ho5, hcq⟩ := vq_cut HPG2.out.qo hmq hcm (by omega)
                          have HQ5 := Lib.hid (fun (_ : Unit) => hq5)
                          have HNT := Lib.hid (fun X (hX : Ext wd X) (B1 B2 : Option Addr) (m1 d1 m2 d2 : Nat) (h1 : m1 ≤ d1) (h2 : m2 ≤ d2) (k1 : kInt.row X (fun j => wd.heap.size ≤ j) B1 m1 xg) (k2 : kInt.row X (fun j => wd.heap.size ≤ j) B2 m2 xn) =>
                            HPG2.out.note hX (x := (⟨xf, xu, xg, xn⟩ : Ln)) (cs := #[.int .i64 xf, .int .i64 xu, .slice B1 m1 d1, .slice B2 m2 d2]) (kLn_rep.2 ⟨B1, m1, d1, B2, m2, d2, rfl, h1, h2, k1, k2⟩) (by rw [hn8]; omega) (qv' := .slice A5 (m - 1) c5) (Q' := Q.drop (i + 1)) (fun Y hY => HQ5.out () Y hY) ho5)
                          clear hx0 hgl hrep hcell y0 y1 y2 y3 hr1 hr2 hng hq5 ho5 he1 he2 hxl
                          go_upto_region 19 with (fail)
                          have hS0 : (fun X : World => X.cell? ⟨z, 5, none⟩ = some (.slice A8 i c8) ∧ X.cell? ⟨g, o, none⟩ = some (.int .i64 xf) ∧ X.cell? ⟨g, o + 1, none⟩ = some (.int .i64 xu) ∧ X.cell? ⟨g, o + 2, none⟩ = some (.slice G1 g1 e1) ∧ X.cell? ⟨g, o + 3, none⟩ = some (.slice G2 g2 e2)) wd.drew := HS0.out _ (Ext.refl _).drew
                          refine wp_region_E (fun X : World => X.cell? ⟨z, 5, none⟩ = some (.slice A8 i c8) ∧ X.cell? ⟨g, o, none⟩ = some (.int .i64 xf) ∧ X.cell? ⟨g, o + 1, none⟩ = some (.int .i64 xu) ∧ X.cell? ⟨g, o + 2, none⟩ = some (.slice G1 g1 e1) ∧ X.cell? ⟨g, o + 3, none⟩ = some (.slice G2 g2 e2)) (fun _ => True) (fun i => i == 9) (by kernel_rfl) ?_
                          refine wpE_takeS (i := 0) (d := some 116) (v := .pointer (some ⟨z, 5, none⟩)) rfl rfl (by kernel_rfl) (by kernel_rfl) (by kernel_rfl) (by kernel_rfl) (fun _ _ _ h => h) (by rfl) ?hyd1 hS0 trivial ?god1
                          case hyd1 =>
                            intro w9 hT9
                            clear hT9; go_simp
                          (try simp only [Act.put, List.setIfInBounds_toArray, List.set_cons_zero, List.set_cons_succ])
                          refine wpE_takeS (i := 1) (d := some 117) (v := .slice A8 i c8) rfl rfl (by kernel_rfl) (by kernel_rfl) (by kernel_rfl) (by kernel_rfl) (fun _ _ _ h => h) (by rfl) ?hyd2 hS0 trivial ?god2
                          case hyd2 =>
                            intro w9 hT9
                            obtain ⟨y0, y1, y2, y3, y4⟩ := hT9; go_simp
                          (try simp only [Act.put, List.setIfInBounds_toArray, List.set_cons_zero, List.set_cons_succ])
                          refine wpE_takeS (i := 2) (d := some 118) (v := .slice (some ⟨g, o, none⟩) m c0) rfl rfl (by kernel_rfl) (by kernel_rfl) (by kernel_rfl) (by kernel_rfl) (fun _ _ _ h => h) (by rfl) ?hyd3 hS0 trivial ?god3
                          case hyd3 =>
                            intro w9 hT9
                            clear hT9; go_simp
                          (try simp only [Act.put, List.setIfInBounds_toArray, List.set_cons_zero, List.set_cons_succ])
                          refine wpE_takeS (i := 3) (d := some 119) (v := .pointer (some ⟨g, o, none⟩)) rfl rfl (by kernel_rfl) (by kernel_rfl) (by kernel_rfl) (by kernel_rfl) (fun _ _ _ h => h) (by rfl) ?hyd4 hS0 trivial ?god4
                          case hyd4 =>
                            intro w9 hT9
                            clear hT9; go_simp
                          (try simp only [Act.put, List.setIfInBounds_toArray, List.set_cons_zero, List.set_cons_succ])
                          refine wpE_takeS (i := 4) (d := some 120) (v := .agg #[.int .i64 xf, .int .i64 xu, .slice G1 g1 e1, .slice G2 g2 e2]) rfl rfl (by kernel_rfl) (by kernel_rfl) (by kernel_rfl) (by kernel_rfl) (fun _ _ _ h => h) (by rfl) ?hyd5 hS0 trivial ?god5
                          case hyd5 =>
                            intro w9 hT9
                            obtain ⟨y0, y1, y2, y3, y4⟩ := hT9; go_simp
                          (try simp only [Act.put, List.setIfInBounds_toArray, List.set_cons_zero, List.set_cons_succ])
                          refine wpE_all (rs := [5]) (by kernel_rfl) (by simp) ?_
                          refine AllE.cons rfl (fun K hK => ?_) AllE.nil
                          simp only [List.getElem_toArray, List.getElem_cons_succ, List.getElem_cons_zero]
                          go_simp
                          go_at_call 181
                          refine (HCP.out _ (Ext.refl _).drew).mono ?_
                          rintro z9 wG ⟨v9, rfl, hv9, hxG⟩
                          obtain ⟨B1, m1, d1, B2, m2, d2, rfl, hm1, hm2, hr1, hr2⟩ := hv9
                          have hcur : Ext wd wG := (Ext.refl _).drew.trans hxG
                          simp only []
                          refine hK.out _ _ ⟨fun _ => (HS0.out _ hcur), trivial⟩ (fun _ => ?_)
                          clear hK K
                          have hS0 := (HS0.out _ hcur)
                          (try simp only [Act.put, List.setIfInBounds_toArray, List.set_cons_zero, List.set_cons_succ])
                          refine wpE_all (rs := [6]) (by kernel_rfl) (by simp) ?_
                          refine AllE.cons rfl (fun K hK => ?_) AllE.nil
                          simp only [List.getElem_toArray, List.getElem_cons_succ, List.getElem_cons_zero]
                          go_simp
                          refine hK.out _ _ ⟨fun _ => (HS0.out _ (hcur.alloc (.cells #[.int .i64 xf, .int .i64 xu, .slice B1 m1 d1, .slice B2 m2 d2] 86))), trivial⟩ (fun _ => ?_)
                          clear hK K
                          have hS0 := (HS0.out _ (hcur.alloc (.cells #[.int .i64 xf, .int .i64 xu, .slice B1 m1 d1, .slice B2 m2 d2] 86)))
                          (try simp only [Act.put, List.setIfInBounds_toArray, List.set_cons_zero, List.set_cons_succ])
                          refine wpE_all (rs := [7]) (by kernel_rfl) (by simp) ?_
                          refine AllE.cons rfl (fun K hK => ?_) AllE.nil
                          simp only [List.getElem_toArray, List.getElem_cons_succ, List.getElem_cons_zero]
                          obtain ⟨A9, c9, w9, hrun, hb9, hx9, hk9, hp9⟩ := HNT.out wG hcur B1 B2 m1 d1 m2 d2 hm1 hm2 hr1 hr2
                          have HC9 := Lib.hid (HS9.out wG hcur w9 hb9 hk9)
                          have HB9 := Lib.hid hb9
                          have HP9 := Lib.hid hp9
                          clear hb9 hk9 hp9 hx9 hr1 hr2
                          refine step_append_tm (s := .tmp 117) (x := .tmp 122) hrun rfl rfl rfl rfl rfl ?_
                          refine hK.out _ _ ⟨fun _ => HC9.out, trivial⟩ (fun _ => ?_)
                          clear hK K
                          have hS0 := HC9.out
                          (try simp only [Act.put, List.setIfInBounds_toArray, List.set_cons_zero, List.set_cons_succ])
                          refine wpE_takeS (i := 8) (d := some 124) (v := .pointer (some ⟨z, 5, none⟩)) rfl rfl (by kernel_rfl) (by kernel_rfl) (by kernel_rfl) (by kernel_rfl) (fun _ _ _ h => h) (by rfl) ?hyd6 hS0 trivial ?god6
                          case hyd6 =>
                            intro w9 hT9
                            clear hT9; go_simp
                          (try simp only [Act.put, List.setIfInBounds_toArray, List.set_cons_zero, List.set_cons_succ])
                          refine wpE_all (rs := [9]) (by kernel_rfl) (by simp) ?_
                          refine AllE.cons rfl (fun K hK => ?_) AllE.nil
                          simp only [List.getElem_toArray, List.getElem_cons_succ, List.getElem_cons_zero]
                          have z5 := HC9.out.1
                          have z6 := frozen_of HB9.out 5
                          go_simp
                          refine hK.out _ _ ⟨fun h => absurd h (by simp), trivial⟩ (fun _ => ?_)
                          clear hK K
                          (try simp only [Act.put, List.setIfInBounds_toArray, List.set_cons_zero, List.set_cons_succ])
                          refine wpE_done (by kernel_rfl) ?_ _
                          go_wp2_with fail
                          go_roundw
                          case rel => exact ⟨i + 1, _, _, by omega, hst3, by
                            have h9 := HP9.out
                            rwa [hn8, ← take_one hx] at h9⟩
                          case measure => simp only [slen]; omega
                        | false =>
                          have hTF := of_decide_eq_false HT.out
                          have hie := HSS.out.2 fun e => hTF ⟨by omega, e.2⟩
                          have HREL := Lib.hid (show VsB w wr z (.slice Aq ql cq) M h notes body a r0 (.slice A0 m c0) (.int .i64 ((k : Int) + 1)) wd from ⟨l + 1, i, k + 1, Q, _, _, by omega, by have := HE1.out; omega, by simp, by rw [hie]; exact HSTP1.out, by rw [hie]; exact HFP2.out, HLX.out, by omega, HPG2.out⟩)
                          clear hie hTF
                          go_wp2_with fail
                          go_roundw
                          case rel => exact HREL.out
                          case measure => simp only [toM]; omega
end Go.Proofs.YtdbnddmncbjobaaGreatDoor

/- The reference's Text: walked. -/
namespace Go.Proofs.YtdbnddmncbjobaaGreatDoor
open Go Go.RowKit

set_option maxHeartbeats 4000000 in
set_option maxRecDepth 100000 in
theorem rtext2_any (P : Nat → Prop) (w : World) (t : Tx) (m h : Int) (A A' : Option Addr) (n n' c c' : Nat) (h1 : kWs.row w P A n t.paras) (h2 : kWs.row w P A' n' t.notes) (hT : TxP t m h) (hm0 : 500 ≤ m) (hm : m ≤ 2000) :
    Calls Tryz.prog 116 #[.agg #[.slice A n c, .slice A' n' c'], .int .i64 m, .int .i64 h] w (fun e w' => ∃ A1 c1, e = .returned (.tuple #[.slice A1 (textP t m h).2.length c1, .int .i64 0]) ∧
      kPg.own 84 w' w.heap.size (fun j => w.heap.size ≤ j) (.slice A1 (textP t m h).2.length c1) ((textP t m h).2.map pgOf) ∧ Ext w w') := by
  have HLI := Lib.hid (fun X (hX : Ext w X) => rlines2_any P X t m A A' n n' c c' (Lay.row_ext h1 hX) (Lay.row_ext h2 hX) hT.chk hm0 hm)
  have HT := Lib.hid hT
  obtain ⟨body, hb⟩ : ∃ b, (linesT t m).2.1 = b := ⟨_, rfl⟩
  obtain ⟨notes, hn⟩ : ∃ b, (linesT t m).2.2 = b := ⟨_, rfl⟩
  have HB := Lib.hid hb
  have HN := Lib.hid hn
  simp only [hb, hn] at HLI
  clear h1 h2 hT hb hn
  go_enter Tryz.func116, Tryz.ntmps116
  go_wp2_with fail
  refine (HLI.out _ ((Ext.refl w).alloc _)).mono ?_
  rintro e w1 ⟨A1, c1, A2, c2, rfl, ho1, ho2, hx1⟩
  have HX1 := Lib.hid (((Ext.refl w).alloc (.cells #[.slice A n c, .slice A' n' c'] 53)).trans hx1)
  obtain ⟨Ab, cb, e1, hcb, hr1⟩ := own_rowN (Q := fun j => w.heap.size ≤ j) ho1 (fun j hj _ => by rw [World.size_alloc] at hj; omega) (fun j hj _ => by rw [World.size_alloc] at hj; omega)
  obtain ⟨An, cn, e2, _, hr2⟩ := own_rowN (Q := fun j => w.heap.size ≤ j) ho2 (fun j hj _ => by rw [World.size_alloc] at hj; omega) (fun j hj _ => by rw [World.size_alloc] at hj; omega)
  have e1a : A1 = Ab := by injection e1
  have e2a : A2 = An := by injection e2
  rw [← e1a] at hr1
  rw [← e2a] at hr2
  clear e1 e2 e1a e2a ho1 ho2 hcb
  have HPS := Lib.hid (rset_any (fun j => w.heap.size ≤ j) (fun j => w.heap.size ≤ j) w1 A1 A2 body.length notes.length c1 c2 200 body notes h hr1 hr2 (by have := HT.out.pg; rwa [HB.out, HN.out] at this) (by have := HT.out.left; rwa [HB.out, HN.out] at this) (by omega) (by have := HT.out.nn; rw [HN.out] at this; omega) (by have := HT.out.lnb; rwa [HB.out] at this) (by have := HT.out.lnn; rwa [HN.out] at this) (by have := HT.out.nts; rwa [HB.out, HN.out] at this))
  have HEQ := Lib.hid (show (setPg body notes h).2 = (textP t m h).2 by rw [HT.out.eq, HB.out, HN.out])
  rw [HEQ.out] at HPS
  clear hr1 hr2 hx1
  go_wp2_with fail
  refine HPS.out.mono ?_
  rintro e w2 ⟨A3, c3, rfl, ho3, hx3⟩
  have HO3 := Lib.hid ho3
  have HX3 := Lib.hid (HX1.out.trans hx3)
  clear ho3 hx3
  have hw1 := HX1.out.lt
  go_wp2_with fail
  go_ret2
  exact ⟨A3, c3, rfl, own_low HO3.out hw1, HX3.out⟩
end Go.Proofs.YtdbnddmncbjobaaGreatDoor

/- The reference's Pages: what its loops reckon, in plain Lean. -/
namespace Go.Proofs.YtdbnddmncbjobaaGreatDoor

/-- The pages from a page of a version on. -/
def pgT (b : Bk) (i : Nat) (x : Se) (k : Nat) (v : Int) (first : Bool) (ps : List (List Ln × List Ln)) (n s : Int) : List Pg :=
  (pagesT x.ent v first ps n s).1 ++ ((pagesV b.ms b.ht x.ent (x.vers.drop (k + 1)) (x.texts.drop (k + 1)) false (pagesT x.ent v first ps n s).2.1 (pagesT x.ent v first ps n s).2.2).1 ++
    pagesS b.ms b.ht (b.secs.drop (i + 1)) (pagesV b.ms b.ht x.ent (x.vers.drop (k + 1)) (x.texts.drop (k + 1)) false (pagesT x.ent v first ps n s).2.1 (pagesT x.ent v first ps n s).2.2).2)
/-- The pages from a version of a section on. -/
def pgV (b : Bk) (i : Nat) (x : Se) (k : Nat) (first : Bool) (n s : Int) : List Pg :=
  (pagesV b.ms b.ht x.ent (x.vers.drop k) (x.texts.drop k) first n s).1 ++ pagesS b.ms b.ht (b.secs.drop (i + 1)) (pagesV b.ms b.ht x.ent (x.vers.drop k) (x.texts.drop k) first n s).2
theorem pgS_V {b : Bk} {i : Nat} {x : Se} (h : b.secs[i]? = some x) (n : Int) : pagesS b.ms b.ht (b.secs.drop i) n = pgV b i x 0 true n 0 := by
  rw [dwl _ h]; rfl
theorem pgS_end {b : Bk} {i : Nat} (h : b.secs.length ≤ i) (n : Int) : pagesS b.ms b.ht (b.secs.drop i) n = [] := by
  rw [List.drop_of_length_le h]; rfl
theorem pgV_T {b : Bk} {i : Nat} {x : Se} {k : Nat} {v : Int} {t : Tx} (hv : x.vers[k]? = some v) (ht : x.texts[k]? = some t) (first : Bool) (n s : Int) : pgV b i x k first n s = pgT b i x k v first (textP t b.ms b.ht).2 n s := by
  unfold pgV pgT
  rw [dwl _ hv, dwl _ ht]
  simp only [pagesV, List.append_assoc]
theorem pgV_end {b : Bk} {i : Nat} {x : Se} {k : Nat} (h : x.texts.length ≤ k) (hv : x.vers.length = x.texts.length) (first : Bool) (n s : Int) : pgV b i x k first n s = pagesS b.ms b.ht (b.secs.drop (i + 1)) n := by
  unfold pgV
  rw [List.drop_of_length_le (l := x.vers) (by omega), List.drop_of_length_le h]
  simp [pagesV]
theorem pgT_end {b : Bk} {i : Nat} {x : Se} {k : Nat} {v : Int} (first : Bool) (n s : Int) : pgT b i x k v first [] n s = pgV b i x (k + 1) false n s := by
  unfold pgT pgV
  simp [pagesT]
theorem pgT_step {b : Bk} {i : Nat} {x : Se} {k : Nat} {v : Int} (first : Bool) (p : List Ln × List Ln) (ps : List (List Ln × List Ln)) (n s : Int) :
    pgT b i x k v first (p :: ps) n s = ⟨if first then n + 1 else n, if first then s else s + 1, x.ent, v, p.1, p.2⟩ :: pgT b i x k v first ps (if first then n + 1 else n) (if first then s else s + 1) := by
  unfold pgT
  simp only [pagesT, List.cons_append]
end Go.Proofs.YtdbnddmncbjobaaGreatDoor

/- The reference's Pages: walked. -/
namespace Go.Proofs.YtdbnddmncbjobaaGreatDoor
open Go Go.RowKit

/-- The pages done are in a row of the call's own; W1, ov1: the world and the row at some time before. -/
structure Ow (w0 W1 : World) (ov1 : Value) (done : List Pg) (ov : Value) (W : World) : Prop where
  own : kPg.own 84 W w0.heap.size (fun j => w0.heap.size ≤ j) ov done
  ow : ∀ j, ov.ownBlock = some j → ov1.ownBlock = some j ∨ W1.heap.size ≤ j
  keep : ∀ j, j < W1.heap.size → ov1.ownBlock ≠ some j → W.heap[j]? = W1.heap[j]?
  size : W1.heap.size ≤ W.heap.size
  ext : Ext w0 W
theorem Ow.start {w0 W : World} {done : List Pg} {ov : Value} (h : kPg.own 84 W w0.heap.size (fun j => w0.heap.size ≤ j) ov done) (hx : Ext w0 W) : Ow w0 W ov done ov W := ⟨h, fun _ h => .inl h, fun _ _ _ => rfl, Nat.le_refl _, hx⟩
theorem Ow.mv {w0 W1 W W' : World} {ov1 ov : Value} {done : List Pg} (h : Ow w0 W1 ov1 done ov W) (hx : Ext W W') : Ow w0 W1 ov1 done ov W' :=
  ⟨Lay.own_ext h.own hx, h.ow, fun j hj ho => (hx.block j (Nat.lt_of_lt_of_le hj h.size)).trans (h.keep j hj ho), Nat.le_trans h.size hx.lt, h.ext.trans hx⟩
theorem Ow.comp {w0 W1 W W' : World} {ov1 ov ov' : Value} {d d' : List Pg} (h : Ow w0 W1 ov1 d ov W) (k : Ow w0 W ov d' ov' W') : Ow w0 W1 ov1 d' ov' W' := by
  refine ⟨k.own, fun j hj => ?_, fun j hj ho => ?_, Nat.le_trans h.size k.size, k.ext⟩
  · rcases k.ow j hj with h1 | h1
    · exact h.ow j h1
    · exact .inr (Nat.le_trans h.size h1)
  · refine (k.keep j (Nat.lt_of_lt_of_le hj h.size) fun e => ?_).trans (h.keep j hj ho)
    rcases h.ow j e with h1 | h1
    · exact ho h1
    · omega
theorem Ow.cell {w0 W1 W : World} {ov1 ov : Value} {d : List Pg} (h : Ow w0 W1 ov1 d ov W) {g i : Nat} {u : Value} (hc : W1.cell? ⟨g, i, none⟩ = some u) (hg : g < W1.heap.size) (ho : ov1.ownBlock ≠ some g) : W.cell? ⟨g, i, none⟩ = some u :=
  (World.cell?_of_block (a := ⟨g, i, none⟩) (h.keep g hg ho)).trans hc
/-- A page is appended. -/
theorem Ow.app {w0 W1 X : World} {ov1 ov : Value} {d : List Pg} (h : Ow w0 W1 ov1 d ov X) {p : Pg} {cs : Array Value} (hr : kPg.rep X (fun j => w0.heap.size ≤ j ∧ ov.ownBlock ≠ some j) p cs.toList) (hl : d.length < 10000000) :
    ∃ A' c' w', (Builtin.append_ #[106, 106] 106 #[ov, .slice (some ⟨X.heap.size, 0, none⟩) 1 1]).run Tryz.prog (X.alloc (.cells cs 84)) = .ok (.slice A' (d.length + 1) c') w' ∧ Ow w0 W1 ov1 (d ++ [p]) (.slice A' (d.length + 1) c') w' := by
  obtain ⟨A', c', w', r1, r2, r3, r4, r5, r6⟩ := own_app1 (k := kPg) (Pr := Tryz.prog) (t := 106) Tryz.underlying106 info84 rfl (by decide) (by omega) h.own h.ext.lt (cs := cs) (T := 84) (x := p) hr 1 (by omega)
  have hs := h.size
  refine ⟨A', c', w', r1, r2, fun j hj => ?_, fun j hj ho => ?_, Nat.le_trans h.size r5, Below.trans h.ext (r3 _ (Nat.le_refl _))⟩
  · rcases r6 j hj with h1 | h1
    · exact h.ow j h1
    · exact .inr (by omega)
  · refine (r4 j (by omega) fun e => ?_).trans (h.keep j hj ho)
    rcases h.ow j e with h1 | h1
    · exact ho h1
    · omega
def VgO (W0 : World) (b : Bk) (s3 s4 s5 : Value) (w' : World) : Prop := ∃ (i : Nat) (num : Int) (done : List Pg), i ≤ b.secs.length ∧ s5 = .int .i64 i ∧ s4 = .int .i64 num ∧ 0 ≤ num ∧ num ≤ done.length ∧ kPg.own 84 w' W0.heap.size (fun j => W0.heap.size ≤ j) s3 done ∧ Ext W0 w' ∧
  done ++ pagesS b.ms b.ht (b.secs.drop i) num = pagesB b
def VgM (W0 W1 : World) (ov1 : Value) (b : Bk) (i : Nat) (x : Se) (s3 s4 s7 s8 : Value) (w' : World) : Prop := ∃ (k : Nat) (num suf : Int) (done : List Pg), k ≤ x.texts.length ∧ s8 = .int .i64 k ∧ s4 = .int .i64 num ∧ s7 = .int .i64 suf ∧ (0 ≤ num ∧ num ≤ done.length) ∧ (0 ≤ suf ∧ suf ≤ done.length) ∧ Ow W0 W1 ov1 done s3 w' ∧
  done ++ pgV b i x k (decide (k = 0)) num suf = pagesB b
def VgI (W0 W3 : World) (ov3 : Value) (b : Bk) (i : Nat) (x : Se) (k : Nat) (v : Int) (ps : List (List Ln × List Ln)) (s3 s4 s7 s11 : Value) (w' : World) : Prop := ∃ (j : Nat) (num suf : Int) (done : List Pg), j ≤ ps.length ∧ s11 = .int .i64 j ∧ s4 = .int .i64 num ∧ s7 = .int .i64 suf ∧ (0 ≤ num ∧ num ≤ done.length) ∧ (0 ≤ suf ∧ suf ≤ done.length) ∧ Ow W0 W3 ov3 done s3 w' ∧
  done ++ pgT b i x k v (decide (k = 0)) (ps.drop j) num suf = pagesB b
set_option maxHeartbeats 16000000 in
set_option maxRecDepth 100000 in
theorem rpages_any (P : Nat → Prop) (w : World) (b : Bk) (A : Option Addr) (N c : Nat) (hb : BkI b) (hr : kSe.row w P A N b.secs) :
    Calls Tryz.prog 58 #[.agg #[.int .i64 b.ms, .int .i64 b.ht, .slice A N c]] w (ClPost w b) := by
  have HN := Lib.hid (Lay.row_len hr)
  have HR := Lib.hid hr
  have HBI := Lib.hid hb
  have hNb : N ≤ 1000000 := by have := hb.s.n; have := Lay.row_len hr; omega
  clear hr hb
  go_enter Tryz.func58, Tryz.ntmps58
  go_upto_region 1 with (fail)
  obtain ⟨W0, hW0⟩ : ∃ W0, w.alloc (.cells #[.int .i64 b.ms, .int .i64 b.ht, .slice A N c] 27) = W0 := ⟨_, rfl⟩
  obtain ⟨z, hz⟩ : ∃ z, w.heap.size = z := ⟨_, rfl⟩
  have hx0 : Ext w W0 := by rw [← hW0]; exact (Ext.refl w).alloc _
  have hB0 : W0.heap[z]? = some (.cells #[.int .i64 b.ms, .int .i64 b.ht, .slice A N c] 27 (0, 0)) := by rw [← hW0, ← hz]; exact heap_alloc_at _ _ _ _ rfl
  rw [hW0, hz]
  have HX0 := Lib.hid hx0
  have HCA := Lib.hid (fun X (hX : Ext W0 X) => (show X.cell? ⟨z, 0, none⟩ = some (.int .i64 b.ms) ∧ X.cell? ⟨z, 1, none⟩ = some (.int .i64 b.ht) ∧ X.cell? ⟨z, 2, none⟩ = some (.slice A N c) from
    have h9 := (hX.block _ (lt_of_block hB0)).trans hB0
    ⟨cell_of h9 (i := 0) rfl, cell_of h9 (i := 1) rfl, cell_of h9 (i := 2) rfl⟩))
  clear hW0 hz hx0 hB0
  go_wp2_with fail
  go_loopw [3, 4, 5, 6, 7, 8, 9, 10, 11, 12] (fun s3 s4 s5 _ _ _ _ _ _ _ w' => VgO W0 b s3 s4 s5 w') (fun _ _ s5 _ _ _ _ _ _ _ _ => toM N s5)
  case atStart => exact ⟨0, 0, [], by omega, rfl, rfl, by omega, by simp, Lay.own_nil _ _ _ _ _, Ext.refl _, by simp [pagesB]⟩
  case round =>
    obtain ⟨i, num, done, hi, rfl, rfl, hn0, hn1, ho, hx, heq⟩ := hrel
    rename World => wr
    rw [← HN.out] at hi
    have HXR := Lib.hid hx
    have HEQ := Lib.hid heq
    have HO := Lib.hid ho
    obtain ⟨c0, c1, c2⟩ := HCA.out _ hx
    have hdl : done.length ≤ 1000000 := by
      have h1 := congrArg List.length heq
      have h2 := HBI.out.np
      rw [List.length_append] at h1
      omega
    obtain ⟨A3, c3, e3, hc3, _⟩ := Lay.own_row ho
    subst e3
    clear ho hx heq
    by_cases hlt : i < N
    case neg =>
      obtain rfl : i = N := by omega
      have hni : ¬ ((i : Int) < (i : Int)) := by omega
      have HF := Lib.hid (show done = pagesB b by
        have h9 := HEQ.out
        rwa [pgS_end (by have := HN.out; omega), List.append_nil] at h9)
      go_wp2_with fail
      go_ret
      obtain ⟨A9, c9, e9, h9, hr9⟩ := Lay.own_row HO.out
      rw [← (Value.slice.inj e9).1] at hr9
      refine ⟨A3, done.length, c3, rfl, hc3, hdl, ?_, HX0.out.trans HXR.out⟩
      rw [← HF.out]
      exact Lay.row_mono hr9 fun j hj _ => by
        rcases hj with hj | hj
        · exact Nat.le_trans HX0.out.lt hj
        · exact Nat.le_trans HX0.out.lt (Lay.own_lt HO.out j hj).1
    have hI : (i : Int) < (N : Int) := by omega
    obtain ⟨x, hxi⟩ : ∃ x, b.secs[i]? = some x := ⟨_, List.getElem?_eq_getElem (by have := HN.out; omega)⟩
    obtain ⟨bs, os, cs, rfl, hbs, _, hrep, hcell⟩ := Lay.row_at HR.out hxi
    obtain ⟨A1, n1, c1', A2, n2, c2', rfl, _, _, hr1, hr2⟩ := kSe_rep.1 hrep
    have y0 := (HX0.out.trans HXR.out).cells.1 bs (os + i * kSe.sz + 0) hbs |>.trans (hcell 0 _ rfl)
    have y1 := (HX0.out.trans HXR.out).cells.1 bs (os + i * kSe.sz + 1) hbs |>.trans (hcell 1 _ rfl)
    have y2 := (HX0.out.trans HXR.out).cells.1 bs (os + i * kSe.sz + 2) hbs |>.trans (hcell 2 _ rfl)
    have y3 := (HX0.out.trans HXR.out).cells.1 bs (os + i * kSe.sz + 3) hbs |>.trans (hcell 3 _ rfl)
    rw [kSe_sz] at y0 y1 y2 y3
    rw [Nat.add_zero] at y0
    have HR1 := Lib.hid hr1
    have HR2 := Lib.hid hr2
    have HVS := Lib.hid (HBI.out.vs x (List.mem_of_getElem? hxi))
    have HTX := Lib.hid (HBI.out.tx x (List.mem_of_getElem? hxi))
    have HLNB := Lib.hid (HBI.out.ln x (List.mem_of_getElem? hxi))
    have HN1 := Lib.hid (Lay.row_len hr1)
    have HN2 := Lib.hid (Lay.row_len hr2)
    have hn2 : n2 ≤ 1000000 := by have := HBI.out.s.nt x (List.mem_of_getElem? hxi); have := HN2.out; omega
    have HPV := Lib.hid (show done ++ pgV b i x 0 (decide (0 = 0)) num 0 = pagesB b by rw [← HEQ.out, pgS_V hxi]; rfl)
    have m0 := HBI.out.m0
    have m1 := HBI.out.m1
    have m2 := HBI.out.h
    clear hxi hrep hcell hr1 hr2
    go_upto_region 9 with (fail)
    obtain ⟨W1, hW1⟩ : ∃ W1, wr.alloc (.cells #[.int .i64 x.ent, .bool x.fz, .slice A1 n1 c1', .slice A2 n2 c2'] 46) = W1 := ⟨_, rfl⟩
    obtain ⟨zs, hzs⟩ : ∃ zs, wr.heap.size = zs := ⟨_, rfl⟩
    have hx1 : Ext wr W1 := by rw [← hW1]; exact (Ext.refl wr).alloc _
    have hB1 : W1.heap[zs]? = some (.cells #[.int .i64 x.ent, .bool x.fz, .slice A1 n1 c1', .slice A2 n2 c2'] 46 (0, 0)) := by rw [← hW1, ← hzs]; exact heap_alloc_at _ _ _ _ rfl
    rw [hW1, hzs]
    have HB1 := Lib.hid hB1
    have HOZ := Lib.hid (show ∀ j, (Value.slice A3 done.length c3).ownBlock = some j → j < zs from fun j hj => by have := (Lay.own_lt HO.out j hj).2; omega)
    have HX1 := Lib.hid (HXR.out.trans hx1)
    have HO1 := Lib.hid (show Ow W0 W1 (.slice A3 done.length c3) done (.slice A3 done.length c3) W1 from Ow.start (Lay.own_ext HO.out hx1) (HXR.out.trans hx1))
    have HCS := Lib.hid (fun X d ov (hX : Ow W0 W1 (.slice A3 done.length c3) d ov X) => (show X.cell? ⟨zs, 0, none⟩ = some (.int .i64 x.ent) ∧ X.cell? ⟨zs, 2, none⟩ = some (.slice A1 n1 c1') ∧ X.cell? ⟨zs, 3, none⟩ = some (.slice A2 n2 c2') from
      have h9 : X.heap[zs]? = some (.cells #[.int .i64 x.ent, .bool x.fz, .slice A1 n1 c1', .slice A2 n2 c2'] 46 (0, 0)) := (hX.keep zs (lt_of_block hB1) fun e => Nat.lt_irrefl _ (HOZ.out zs e)).trans hB1
      ⟨cell_of h9 (i := 0) rfl, cell_of h9 (i := 2) rfl, cell_of h9 (i := 3) rfl⟩))
    clear hW1 hzs hx1 hB1 y0 y1 y2 y3 c0 c1 c2
    go_loopw [3, 4, 7, 8, 9, 10, 11, 12] (fun s3 s4 s7 s8 _ _ _ _ w' => VgM W0 W1 (.slice A3 done.length c3) b i x s3 s4 s7 s8 w') (fun _ _ _ s8 _ _ _ _ _ => toM n2 s8)
    case atStart => exact ⟨0, num, 0, done, by omega, rfl, rfl, rfl, ⟨hn0, hn1⟩, ⟨by omega, by omega⟩, HO1.out, HPV.out⟩
    case round =>
      obtain ⟨k, num, suf, dn, hk, rfl, rfl, rfl, ⟨hn0, hn1⟩, ⟨hs0, hs1⟩, how, heq⟩ := hrel
      rename World => wk
      have HOW := Lib.hid how
      have HEQ2 := Lib.hid heq
      obtain ⟨d0, d2, d3⟩ := HCS.out _ _ _ how
      obtain ⟨c0, c1, c2⟩ := HCA.out _ how.ext
      have hdl2 : dn.length ≤ 1000000 := by
        have h1 := congrArg List.length heq
        have h2 := HBI.out.np
        rw [List.length_append] at h1
        omega
      obtain ⟨A4, c4, e4, hc4, _⟩ := Lay.own_row how.own
      subst e4
      rw [← HN2.out] at hk
      clear how heq
      by_cases hkt : k < n2
      case neg =>
        obtain rfl : k = n2 := by omega
        have hnk : ¬ ((k : Int) < (k : Int)) := by omega
        have HPE := Lib.hid (show dn ++ pagesS b.ms b.ht (b.secs.drop (i + 1)) num = pagesB b by
          have h9 := HEQ2.out
          rwa [pgV_end (by have := HN2.out; omega) HVS.out] at h9)
        go_wp2_with fail
        go_roundw
        case rel => exact ⟨i + 1, num, dn, by have := HN.out; omega, by simp, rfl, hn0, hn1, HOW.out.own, HOW.out.ext, HPE.out⟩
        case measure => simp only [toM]; omega
      have hK : (k : Int) < (n2 : Int) := by omega
      obtain ⟨t, ht⟩ : ∃ t, x.texts[k]? = some t := ⟨_, List.getElem?_eq_getElem (by have := HN2.out; omega)⟩
      obtain ⟨v, hv⟩ : ∃ v, x.vers[k]? = some v := ⟨_, List.getElem?_eq_getElem (by have := HN2.out; have := HVS.out; omega)⟩
      obtain ⟨bt, ot, cs, rfl, hbt, _, hrep, hcell⟩ := Lay.row_at HR2.out ht
      obtain ⟨A5, n5, c5, A6, n6, c6, rfl, _, _, hr5, hr6⟩ := kTx_rep.1 hrep
      have t0 := hcell 0 _ rfl
      have t1 := hcell 1 _ rfl
      rw [kTx_sz] at t0 t1
      rw [Nat.add_zero] at t0
      obtain ⟨bv, ov, rfl, hbv, _, hvc⟩ := int_at HR1.out hv
      have hwk : Ext w wk := HX0.out.trans HOW.out.ext
      have HCT := Lib.hid (fun X (hX : Ext wk X) => (show X.cell? ⟨zs, 3, none⟩ = some (.slice (some ⟨bt, ot, none⟩) n2 c2') ∧ X.cell? ⟨z, 0, none⟩ = some (.int .i64 b.ms) ∧ X.cell? ⟨z, 1, none⟩ = some (.int .i64 b.ht) ∧ X.cell? ⟨bt, ot + k * 2, none⟩ = some (.slice A5 n5 c5) ∧ X.cell? ⟨bt, ot + k * 2 + 1, none⟩ = some (.slice A6 n6 c6) from
        ⟨(HCS.out X _ _ (HOW.out.mv hX)).2.2, (HCA.out X (HOW.out.ext.trans hX)).1, (HCA.out X (HOW.out.ext.trans hX)).2.1, ((hwk.trans hX).cells.1 bt _ hbt).trans t0, ((hwk.trans hX).cells.1 bt _ hbt).trans t1⟩))
      have HTP := Lib.hid (fun X (hX : Ext wk X) => rtext2_any P X t b.ms b.ht A5 A6 n5 n6 c5 c6 (Lay.row_ext hr5 (hwk.trans hX)) (Lay.row_ext hr6 (hwk.trans hX)) (HTX.out t (List.mem_of_getElem? ht)) m0 m1)
      have HLP := Lib.hid (HLNB.out t (List.mem_of_getElem? ht))
      have HVC := Lib.hid (fun X (hX : Ext w X) => (show X.cell? ⟨bv, ov + k, none⟩ = some (.int .i64 v) from (hX.cells.1 bv _ hbv).trans hvc))
      obtain ⟨ps, hps⟩ : ∃ ps, (textP t b.ms b.ht).2 = ps := ⟨_, rfl⟩
      rw [hps] at HTP HLP
      have HPT := Lib.hid (show dn ++ pgT b i x k v (decide (k = 0)) ps num suf = pagesB b by rw [← HEQ2.out, pgV_T hv ht, hps])
      have hpl : ps.length ≤ 1000000 := by
        have h1 := congrArg List.length HPT.out
        have h2 := HBI.out.np
        unfold pgT at h1
        rw [List.length_append, List.length_append, pagesT_len] at h1
        omega
      clear ht hv hrep hcell hr5 hr6 t0 t1 hvc hps hbt hbv
      go_upto_region 11 with (fail)
      have hcur : Ext wk wk.drew := (Ext.refl _).drew
      go_region_held3 (fun W => W.cell? ⟨zs, 3, none⟩ = some (.slice (some ⟨bt, ot, none⟩) n2 c2') ∧ W.cell? ⟨z, 0, none⟩ = some (.int .i64 b.ms) ∧ W.cell? ⟨z, 1, none⟩ = some (.int .i64 b.ht) ∧ W.cell? ⟨bt, ot + k * 2, none⟩ = some (.slice A5 n5 c5) ∧ W.cell? ⟨bt, ot + k * 2 + 1, none⟩ = some (.slice A6 n6 c6))
        (exact HCT.out _ hcur)
        (first | (go_at_call 116; refine (HTP.out _ hcur).mono ?_; rintro e w3 ⟨A7, c7, rfl, hol, hx3⟩; have hcur := hcur.trans hx3; have HOL := Lib.hid hol; clear hol hx3))
      have HX3 := Lib.hid hcur
      have HO3 := Lib.hid (HOW.out.mv hcur)
      have HST3 := Lib.hid (Ow.start (HOW.out.mv hcur).own (HOW.out.mv hcur).ext)
      obtain ⟨Ax, cx, e7, hc7, hrl⟩ := own_rowN (Q := fun j => wk.heap.size ≤ j) HOL.out (fun j hj _ => hj) (fun j hj _ => hj)
      have e7a := (Value.slice.inj e7).1
      rw [List.length_map] at hrl
      rw [← e7a] at hrl
      have HRL := Lib.hid (Lay.row_mono (Q := fun j => wk.heap.size ≤ j ∧ j < w3.heap.size) hrl fun j hj hl => ⟨hj, hl⟩)
      have HOK := Lib.hid (show ∀ j, (Value.slice A4 dn.length c4).ownBlock = some j → j < wk.heap.size from fun j hj => (Lay.own_lt HOW.out.own j hj).2)
      have HCK := Lib.hid (fun X d ov' (hX : Ow W0 w3 (.slice A4 dn.length c4) d ov' X) => (show X.cell? ⟨zs, 0, none⟩ = some (.int .i64 x.ent) ∧ X.cell? ⟨zs, 2, none⟩ = some (.slice (some ⟨bv, ov, none⟩) n1 c1') from
        have h9 := HCS.out X _ _ (HO3.out.comp hX)
        ⟨h9.1, h9.2.1⟩))
      clear hcur hrl e7 e7a hc7 d0 d2 d3 c0 c1 c2
      go_wp2_with fail
      go_loopw [3, 4, 7, 11, 12] (fun s3 s4 s7 s11 _ w' => VgI W0 w3 (.slice A4 dn.length c4) b i x k v ps s3 s4 s7 s11 w') (fun _ _ _ s11 _ _ => toM ps.length s11)
      case atStart => exact ⟨0, num, suf, dn, by omega, rfl, rfl, rfl, ⟨hn0, hn1⟩, ⟨hs0, hs1⟩, HST3.out, HPT.out⟩
      case round =>
        obtain ⟨j, num, suf, de, hj, rfl, rfl, rfl, ⟨hn0, hn1⟩, ⟨hs0, hs1⟩, how, heq⟩ := hrel
        rename World => wj
        have HOJ := Lib.hid how
        have HEQ3 := Lib.hid heq
        have hdl3 : de.length ≤ 1000000 := by
          have h1 := congrArg List.length heq
          have h2 := HBI.out.np
          rw [List.length_append] at h1
          omega
        obtain ⟨A8, c8, e8, hc8, _⟩ := Lay.own_row how.own
        subst e8
        clear how heq
        by_cases hjp : j < ps.length
        case neg =>
          obtain rfl : j = ps.length := by omega
          have hnj : ¬ ((ps.length : Int) < (ps.length : Int)) := by omega
          have HPE := Lib.hid (show de ++ pgV b i x (k + 1) (decide (k + 1 = 0)) num suf = pagesB b by
            have h9 := HEQ3.out
            rwa [List.drop_length, pgT_end] at h9)
          go_wp2_with fail
          go_roundw
          case rel => exact ⟨k + 1, num, suf, de, by have := HN2.out; omega, by simp, rfl, rfl, ⟨hn0, hn1⟩, ⟨hs0, hs1⟩, HO3.out.comp HOJ.out, HPE.out⟩
          case measure => simp only [toM]; omega
        have hJ : (j : Int) < (ps.length : Int) := by omega
        obtain ⟨p, hp⟩ : ∃ p, ps[j]? = some p := ⟨_, List.getElem?_eq_getElem hjp⟩
        have hpm : (ps.map pgOf)[j]? = some (pgOf p) := by rw [List.getElem?_map, hp]; rfl
        have hrj : kPg.row wj (fun j => wk.heap.size ≤ j ∧ j < w3.heap.size) A7 ps.length (ps.map pgOf) := Lay.row_keep HRL.out HOJ.out.size fun e he hl => HOJ.out.keep e hl fun e9 => by have := HOK.out e e9; omega
        obtain ⟨bp, op, cs, rfl, hbp, hbp2, hrep, hcell⟩ := Lay.row_at hrj hpm
        obtain ⟨G1, g1, e1, G2, g2, e2, rfl, hg1, hg2, hrg1, hrg2⟩ := kPg_rep.1 hrep
        have p0 := hcell 0 _ rfl
        have p1 := hcell 1 _ rfl
        have p2 := hcell 2 _ rfl
        have p3 := hcell 3 _ rfl
        have p4 := hcell 4 _ rfl
        have p5 := hcell 5 _ rfl
        rw [kPg_sz] at p0 p1 p2 p3 p4 p5
        rw [Nat.add_zero] at p0
        obtain ⟨b1, b2⟩ := HCK.out _ _ _ HOJ.out
        have HAL := Lib.hid (fun o => HCK.out (wj.alloc o) _ _ (HOJ.out.mv ((Ext.refl _).alloc o)))
        have ha0 : ∀ o, (wj.alloc o).cell? ⟨zs, 0, none⟩ = some (.int .i64 x.ent) := fun o => (HAL.out o).1
        have ha2 : ∀ o, (wj.alloc o).cell? ⟨zs, 2, none⟩ = some (.slice (some ⟨bv, ov, none⟩) n1 c1') := fun o => (HAL.out o).2
        have hav : ∀ o, (wj.alloc o).cell? ⟨bv, ov + k, none⟩ = some (.int .i64 v) := fun o => HVC.out _ (HX0.out.trans (HOJ.out.ext.alloc o))
        have hk1 : k < n1 := by have := HN1.out; have := HVS.out; have := HN2.out; omega
        have hK1 : (k : Int) < (n1 : Int) := by omega
        have HAPP := Lib.hid (fun (n' s' : Int) (V : World) (hV : Ext wj V) => HOJ.out.mv hV |>.app (p := (⟨n', s', x.ent, v, p.1, p.2⟩ : Pg)) (cs := #[.int .i64 n', .int .i64 s', .int .i64 x.ent, .int .i64 v, .slice G1 g1 e1, .slice G2 g2 e2]) (kPg_rep.2 ⟨G1, g1, e1, G2, g2, e2, rfl, hg1, hg2, Lay.row_mono (Lay.row_ext hrg1 hV) fun e he _ => ⟨Nat.le_trans HOW.out.ext.lt he.1, fun e9 => by
            rcases HOJ.out.ow e e9 with h1 | h1
            · have := HOK.out e h1; omega
            · omega⟩, Lay.row_mono (Lay.row_ext hrg2 hV) fun e he _ => ⟨Nat.le_trans HOW.out.ext.lt he.1, fun e9 => by
            rcases HOJ.out.ow e e9 with h1 | h1
            · have := HOK.out e h1; omega
            · omega⟩⟩) (by omega))
        have hdrop : ps.drop j = p :: ps.drop (j + 1) := dwl _ hp
        have HPN := Lib.hid (show de ++ (⟨if decide (k = 0) then num + 1 else num, if decide (k = 0) then suf else suf + 1, x.ent, v, p.1, p.2⟩ :: pgT b i x k v (decide (k = 0)) (ps.drop (j + 1)) (if decide (k = 0) then num + 1 else num) (if decide (k = 0) then suf else suf + 1)) = pagesB b by rw [← HEQ3.out, hdrop, pgT_step])
        clear hp hpm hrj hbp2 hrep hcell hrg1 hrg2 hdrop hg1 hg2
        simp only [pgOf] at p0 p1 p2 p3 p4 p5
        by_cases hk0 : k = 0
        · subst hk0
          simp only [Nat.add_zero] at hav
          obtain ⟨V, hV⟩ : ∃ V, wj.alloc (.cells #[.int .i64 (num + 1), .int .i64 suf, .int .i64 x.ent, .int .i64 v, .slice G1 g1 e1, .slice G2 g2 e2] 84) = V := ⟨_, rfl⟩
          obtain ⟨A9, c9, w9, hrun, how9⟩ := HAPP.out (num + 1) suf V (by rw [← hV]; exact (Ext.refl _).alloc _)
          have HRUN := Lib.hid hrun
          have HREL := Lib.hid (show VgI W0 w3 (.slice A4 dn.length c4) b i x 0 v ps (.slice A9 (de.length + 1) c9) (.int .i64 (num + 1)) (.int .i64 suf) (.int .i64 ((j : Int) + 1)) w9 from ⟨j + 1, num + 1, suf, _, by omega, by simp, rfl, rfl, ⟨by omega, by rw [List.length_append, List.length_singleton]; omega⟩, ⟨hs0, by rw [List.length_append, List.length_singleton]; omega⟩, how9, by
            have h9 := HPN.out
            rw [List.append_assoc]
            exact h9⟩)
          rw [← hV, World.size_alloc] at HRUN
          clear hrun how9 hV
          go_wp2_with (first | (at_builtin; refine wpList_append_run (s := .tmp 74) (x := .tmp 76) HRUN.out rfl rfl rfl rfl rfl ?_))
          go_roundw
          case rel => first | exact HREL.out | exact ⟨_, _, _, _, HREL.out, rfl, rfl, rfl, rfl⟩
          case measure => simp only [toM]; omega
        · have hk0b : ((k : Int) == 0) = false := by rw [beq_eq_false_iff_ne]; omega
          have hk0i : ¬ (k : Int) = 0 := by omega
          obtain ⟨V, hV⟩ : ∃ V, wj.alloc (.cells #[.int .i64 num, .int .i64 (suf + 1), .int .i64 x.ent, .int .i64 v, .slice G1 g1 e1, .slice G2 g2 e2] 84) = V := ⟨_, rfl⟩
          obtain ⟨A9, c9, w9, hrun, how9⟩ := HAPP.out num (suf + 1) V (by rw [← hV]; exact (Ext.refl _).alloc _)
          have HRUN := Lib.hid hrun
          have HREL := Lib.hid (show VgI W0 w3 (.slice A4 dn.length c4) b i x k v ps (.slice A9 (de.length + 1) c9) (.int .i64 num) (.int .i64 (suf + 1)) (.int .i64 ((j : Int) + 1)) w9 from ⟨j + 1, num, suf + 1, _, by omega, by simp, rfl, rfl, ⟨hn0, by rw [List.length_append, List.length_singleton]; omega⟩, ⟨by omega, by rw [List.length_append, List.length_singleton]; omega⟩, how9, by
            have h9 := HPN.out
            rw [decide_eq_false hk0] at h9 ⊢
            rw [List.append_assoc]
            exact h9⟩)
          rw [← hV, World.size_alloc] at HRUN
          clear hrun how9 hV
          go_wp2_with (first | (at_builtin; refine wpList_append_run (s := .tmp 74) (x := .tmp 76) HRUN.out rfl rfl rfl rfl rfl ?_))
          go_roundw
          case rel => first | exact HREL.out | exact ⟨_, _, _, _, HREL.out, rfl, rfl, rfl, rfl⟩
          case measure => simp only [toM]; omega
end Go.Proofs.YtdbnddmncbjobaaGreatDoor

/- The reference's Lines of a page, Where: walked. -/
namespace Go.Proofs.YtdbnddmncbjobaaGreatDoor
open Go Go.RowKit

set_option maxHeartbeats 4000000 in
set_option maxRecDepth 100000 in
theorem rlns_any (w : World) (a0 a1 a2 a3 : Int) (A7 A8 : Option Addr) (n7 c7 n8 c8 : Nat) (body nts : List Ln) (h1 : kLn.row w (fun _ => True) A7 n7 body) (h2 : kLn.row w (fun _ => True) A8 n8 nts) (l1 : n7 ≤ 100000) (l2 : n8 ≤ 100000) :
    Calls Tryz.prog 133 #[.agg #[.int .i64 a0, .int .i64 a1, .int .i64 a2, .int .i64 a3, .slice A7 n7 c7, .slice A8 n8 c8]] w (fun e w' => ∃ A' c', e = .returned (.slice A' (n7 + n8) c') ∧ kLn.row w' (fun _ => True) A' (n7 + n8) (body ++ nts) ∧ Ext w w') := by
  have HE1 := Lay.row_len h1
  have HE2 := Lay.row_len h2
  obtain ⟨m, hm⟩ : ∃ m, n7 + n8 = m := ⟨_, rfl⟩
  obtain ⟨W0, hW0⟩ : ∃ W0, w.alloc (.cells #[.int .i64 a0, .int .i64 a1, .int .i64 a2, .int .i64 a3, .slice A7 n7 c7, .slice A8 n8 c8] 84) = W0 := ⟨_, rfl⟩
  obtain ⟨z, hz⟩ : ∃ z, w.heap.size = z := ⟨_, rfl⟩
  have hx0 : Ext w W0 := by rw [← hW0]; exact (Ext.refl w).alloc _
  have hB0 : W0.heap[z]? = some (.cells #[.int .i64 a0, .int .i64 a1, .int .i64 a2, .int .i64 a3, .slice A7 n7 c7, .slice A8 n8 c8] 84 (0, 0)) := by rw [← hW0, ← hz]; exact heap_alloc_at _ _ _ _ rfl
  obtain ⟨A1, c1, w1, r1, o1, x1⟩ := own_app (k := kLn) (Pr := Tryz.prog) (t := 82) (e := 86) Tryz.underlying82 info86 rfl (by decide) (by omega) (Lay.own_nil kLn 86 W0 W0.heap.size (fun _ => True)) (Ext.refl W0) (Lay.row_ext h1 hx0) c7 (by simp; omega)
  simp only [List.length_nil, Nat.zero_add, List.nil_append] at r1 o1
  obtain ⟨A2, c2, w2, r2, o2, x2⟩ := own_app (k := kLn) (Pr := Tryz.prog) (t := 82) (e := 86) Tryz.underlying82 info86 rfl (by decide) (by omega) o1 x1 (Lay.row_ext h2 hx0) c8 (by omega)
  rw [← HE1, hm] at r2 o2
  obtain ⟨A3, c3, e3, _, hr⟩ := Lay.own_row o2
  have e3a := (Value.slice.inj e3).1
  have e3b := (Value.slice.inj e3).2.1
  rw [← e3a, ← e3b] at hr
  have HR := Lib.hid (Lay.row_mono hr fun _ _ _ => trivial : kLn.row w2 (fun _ => True) A2 m (body ++ nts))
  have HX2 := Lib.hid (hx0.trans x2)
  have b0 := cell_of hB0 (i := 4) (u := .slice A7 n7 c7) rfl
  have d1 := cell_of ((x1.block z (lt_of_block hB0)).trans hB0) (i := 5) (u := .slice A8 n8 c8) rfl
  have HR1 := Lib.hid r1
  have HR2 := Lib.hid r2
  rw [hm]
  clear h1 h2 hx0 hB0 r1 o1 x1 r2 o2 x2 e3 e3a e3b hr HE1 HE2 hm
  go_enter Tryz.func133, Tryz.ntmps133
  go_upto_region 1 with (fail)
  try rw [hW0]
  try rw [hz]
  go_wp2_with (first | (at_builtin; refine wpList_append_run (s := .tmp 4) (x := .tmp 6) HR1.out rfl rfl rfl rfl rfl ?_) | (at_builtin; refine wpList_append_run (s := .tmp 8) (x := .tmp 10) HR2.out rfl rfl rfl rfl rfl ?_))
  go_ret
  exact ⟨A2, c2, rfl, HR.out, HX2.out⟩
/-- What has been found so far: nothing. -/
def ViO (w1 : World) (e v wd : Int) (L : List Pg) (s12 : Value) (w' : World) : Prop := ∃ i : Nat, i ≤ L.length ∧ s12 = .int .i64 i ∧ Ext w1 w' ∧ whereG e v wd L = whereG e v wd (L.drop i)
def ViI (w1 : World) (wd : Int) (L : List Ln) (s14 : Value) (w' : World) : Prop := ∃ k : Nat, k ≤ L.length ∧ s14 = .int .i64 k ∧ w1 = w' ∧ lineAt wd L 0 = lineAt wd (L.drop k) k
set_option maxHeartbeats 8000000 in
set_option maxRecDepth 100000 in
theorem rwhere_any (P : Nat → Prop) (w : World) (b : Bk) (e v wd : Int) (A : Option Addr) (N c : Nat) (hb : BkI b) (hr : kSe.row w P A N b.secs) (hLN : ∀ p ∈ pagesB b, p.body.length ≤ 1000 ∧ p.nts.length ≤ 1000) :
    Calls Tryz.prog 89 #[.agg #[.int .i64 b.ms, .int .i64 b.ht, .slice A N c], .int .i64 e, .int .i64 v, .int .i64 wd] w (WherePost w b e v wd) := by
  have HPG := Lib.hid (fun X (hX : Ext w X) => rpages_any P X b A N c hb (Lay.row_ext hr hX))
  have HLN := Lib.hid hLN
  clear hr hb hLN
  go_enter Tryz.func89, Tryz.ntmps89
  go_upto_region 1 with (fail)
  obtain ⟨W0, hW0⟩ : ∃ W0, (w.alloc (.cells #[.int .i64 b.ms, .int .i64 b.ht, .slice A N c] 27)).alloc (.cells #[.int .i64 0, .int .i64 0] 64) = W0 := ⟨_, rfl⟩
  obtain ⟨z, hz⟩ : ∃ z, w.heap.size = z := ⟨_, rfl⟩
  have hx0 : Ext w W0 := by rw [← hW0]; exact ((Ext.refl w).alloc _).alloc _
  have hB0 : W0.heap[z]? = some (.cells #[.int .i64 b.ms, .int .i64 b.ht, .slice A N c] 27 (0, 0)) := by rw [← hW0, ← hz, heap_alloc_old _ _ _ (by simp)]; exact heap_alloc_at _ _ _ _ rfl
  have hB1 : W0.heap[z + 1]? = some (.cells #[.int .i64 0, .int .i64 0] 64 (0, 0)) := by rw [← hW0, ← hz]; exact heap_alloc_at _ _ _ _ (by simp)
  obtain ⟨z1, hz1⟩ : ∃ z1, z + 1 = z1 := ⟨_, rfl⟩
  rw [hz1] at hB1
  rw [hW0, hz, hz1]
  have HX0 := Lib.hid hx0
  have HZ1 := Lib.hid (show w.heap.size ≤ z1 by omega)
  have HRS := Lib.hid (fun X (hX : Ext W0 X) => (show X.cell? ⟨z1, 0, none⟩ = some (.int .i64 0) ∧ X.cell? ⟨z1, 1, none⟩ = some (.int .i64 0) ∧ X.frozen? ⟨z1, 0, none⟩ = false ∧ X.frozen? ⟨z1, 1, none⟩ = false from
    have h9 := (hX.block _ (lt_of_block hB1)).trans hB1
    ⟨cell_of h9 (i := 0) rfl, cell_of h9 (i := 1) rfl, frozen_of h9 0, frozen_of h9 1⟩))
  have a0 := cell_of hB0 (i := 0) (u := .int .i64 b.ms) rfl
  have a1 := cell_of hB0 (i := 1) (u := .int .i64 b.ht) rfl
  have a2 := cell_of hB0 (i := 2) (u := .slice A N c) rfl
  clear hW0 hz hz1 hx0 hB0 hB1
  go_wp2_with (first | (go_at_call 58; refine (HPG.out _ HX0.out).mono ?_; rintro en w1 ⟨A1, n1, c1, rfl, hc1, hn1, hr1, hx1⟩; have HX1 := Lib.hid hx1; have HR1 := Lib.hid hr1; clear hx1 hr1))
  have HN1 := Lib.hid (Lay.row_len HR1.out)
  obtain ⟨L, hL⟩ : ∃ L, pagesB b = L := ⟨_, rfl⟩
  have HWH := Lib.hid (show whereP b e v wd = whereG e v wd L by rw [← hL]; rfl)
  rw [hL] at HR1 HN1 HLN
  clear hL a0 a1 a2 hc1
  go_loopw [12, 13, 14] (fun s12 _ _ w' => ViO w1 e v wd L s12 w') (fun s12 _ _ _ => toM n1 s12)
  case atStart => exact ⟨0, by omega, rfl, Ext.refl _, rfl⟩
  case round =>
    obtain ⟨i, hi, rfl, hx, heq⟩ := hrel
    rename World => wr
    rw [← HN1.out] at hi
    have HX := Lib.hid hx
    have HEQ := Lib.hid heq
    obtain ⟨r0, r1, f0, f1⟩ := HRS.out _ (HX1.out.trans hx)
    clear hx heq
    by_cases hlt : i < n1
    case neg =>
      obtain rfl : i = n1 := by omega
      have hni : ¬ ((i : Int) < (i : Int)) := by omega
      have HF := Lib.hid (show whereP b e v wd = none by rw [HWH.out, HEQ.out, List.drop_of_length_le (by have := HN1.out; omega)]; rfl)
      go_wp2_with fail
      refine bodyPost_ret (v := .tuple #[.agg #[.int .i64 0, .int .i64 0], .int .i64 0, .bool false]) (by simp [results, Tryz.results89, go_sem, *]) rfl ?_
      exact .inl ⟨HF.out, rfl, ((HX0.out.trans (HX1.out.trans HX.out)).setCell (p := ⟨z1, 0, none⟩) HZ1.out _).setCell (p := ⟨z1, 1, none⟩) HZ1.out _⟩
    have hI : (i : Int) < (n1 : Int) := by omega
    obtain ⟨p, hp⟩ : ∃ p, L[i]? = some p := ⟨_, List.getElem?_eq_getElem (by have := HN1.out; omega)⟩
    obtain ⟨bp, op, cs, rfl, hbp, _, hrep, hcell⟩ := Lay.row_at (Lay.row_ext HR1.out HX.out) hp
    obtain ⟨G1, g1, e1, G2, g2, e2, rfl, hg1, hg2, hrg1, hrg2⟩ := kPg_rep.1 hrep
    have p0 := hcell 0 _ rfl
    have p1 := hcell 1 _ rfl
    have p2 := hcell 2 _ rfl
    have p3 := hcell 3 _ rfl
    have p4 := hcell 4 _ rfl
    have p5 := hcell 5 _ rfl
    rw [kPg_sz] at p0 p1 p2 p3 p4 p5
    rw [Nat.add_zero] at p0
    have hdr : L.drop i = p :: L.drop (i + 1) := dwl _ hp
    have HST := Lib.hid (show whereG e v wd L = if p.ent ≠ e ∨ p.ver ≠ v then whereG e v wd (L.drop (i + 1)) else match lineAt wd (p.body ++ p.nts) 0 with
      | some k => some (p.num, p.suf, k)
      | none => whereG e v wd (L.drop (i + 1)) by rw [HEQ.out, hdr]; rfl)
    have hpl := HLN.out p (List.mem_of_getElem? hp)
    have HRB := Lib.hid (Lay.row_mono hrg1 fun _ _ _ => trivial : kLn.row wr (fun _ => True) G1 g1 p.body)
    have HRN := Lib.hid (Lay.row_mono hrg2 fun _ _ _ => trivial : kLn.row wr (fun _ => True) G2 g2 p.nts)
    obtain ⟨pn, psf, pe, pv, pb, pt⟩ := p
    simp only at p0 p1 p2 p3 p4 p5 HST HRB HRN hpl
    clear hp hrep hcell hrg1 hrg2 hdr hg1 hg2
    by_cases he : pe = e
    case neg =>
      have heb : (pe == e) = false := by rw [beq_eq_false_iff_ne]; exact he
      have HS := Lib.hid (show whereG e v wd L = whereG e v wd (L.drop (i + 1)) by rw [HST.out, if_pos (.inl he)])
      clear HST
      go_wp2_with fail
      go_roundw
      case rel => exact ⟨i + 1, by have := HN1.out; omega, by simp, HX.out, HS.out⟩
      case measure => simp only [toM]; omega
    subst he
    by_cases hv : pv = v
    case neg =>
      have hvb : (pv == v) = false := by rw [beq_eq_false_iff_ne]; exact hv
      have HS := Lib.hid (show whereG pe v wd L = whereG pe v wd (L.drop (i + 1)) by rw [HST.out, if_pos (.inr hv)])
      clear HST
      go_wp2_with fail
      go_roundw
      case rel => exact ⟨i + 1, by have := HN1.out; omega, by simp, HX.out, HS.out⟩
      case measure => simp only [toM]; omega
    subst hv
    have HST2 := Lib.hid (show whereG pe pv wd L = match lineAt wd (pb ++ pt) 0 with
      | some k => some (pn, psf, k)
      | none => whereG pe pv wd (L.drop (i + 1)) by rw [HST.out, if_neg (by simp)])
    have lg1 := Lay.row_len HRB.out
    have lg2 := Lay.row_len HRN.out
    have HLC := Lib.hid (rlns_any wr pn psf pe pv G1 G2 g1 e1 g2 e2 pb pt HRB.out HRN.out (by omega) (by omega))
    obtain ⟨m, hm⟩ : ∃ m, g1 + g2 = m := ⟨_, rfl⟩
    rw [hm] at HLC
    have HML := Lib.hid (show m = (pb ++ pt).length by rw [List.length_append]; omega)
    clear HST lg1 lg2 hm HRB HRN
    go_wp2_with (first | (go_at_call 133; refine (HLC.out).mono ?_; rintro en w2 ⟨A2, c2, rfl, hr2, hx2⟩; have HR2 := Lib.hid hr2; have HX2 := Lib.hid hx2; clear hr2 hx2))
    have q0 := (HX2.out.cells.1 bp _ hbp).trans p0
    have q1 := (HX2.out.cells.1 bp _ hbp).trans p1
    obtain ⟨r0', r1', f0', f1'⟩ := HRS.out _ (HX1.out.trans (HX.out.trans HX2.out))
    clear p0 p1 p2 p3 p4 p5 r0 r1 f0 f1
    go_loopw [14] (fun s14 w' => ViI w2 wd (pb ++ pt) s14 w') (fun s14 _ => toM m s14)
    case atStart => exact ⟨0, by omega, rfl, rfl, rfl⟩
    case round =>
      obtain ⟨k, hk, rfl, rfl, heqi⟩ := hrel
      have HEQi := Lib.hid heqi
      clear heqi
      rw [← HML.out] at hk
      by_cases hkm : k < m
      case neg =>
        obtain rfl : k = m := by omega
        have hnk : ¬ ((k : Int) < (k : Int)) := by omega
        have HS := Lib.hid (show whereG pe pv wd L = whereG pe pv wd (L.drop (i + 1)) by
          have h9 : lineAt wd (pb ++ pt) 0 = none := by rw [HEQi.out, List.drop_of_length_le (by have := HML.out; omega)]; rfl
          rw [HST2.out, h9])
        go_wp2_with fail
        go_roundw
        case rel => exact ⟨i + 1, by have := HN1.out; omega, by simp, HX.out.trans HX2.out, HS.out⟩
        case measure => simp only [toM]; omega
      have hK : (k : Int) < (m : Int) := by omega
      obtain ⟨x, hx⟩ : ∃ x, (pb ++ pt)[k]? = some x := ⟨_, List.getElem?_eq_getElem (by have := HML.out; omega)⟩
      obtain ⟨bl, ol, cs, rfl, hbl, _, hrep, hcell⟩ := Lay.row_at HR2.out hx
      obtain ⟨B1, m1, d1, B2, m2, d2, rfl, _, _, _, _⟩ := kLn_rep.1 hrep
      have l0 := hcell 0 _ rfl
      have l1 := hcell 1 _ rfl
      rw [kLn_sz] at l0 l1
      rw [Nat.add_zero] at l0
      have hdr : (pb ++ pt).drop k = x :: (pb ++ pt).drop (k + 1) := dwl _ hx
      have HSI := Lib.hid (show lineAt wd (pb ++ pt) 0 = if x.fr ≤ wd ∧ wd < x.un then some (k + 1) else lineAt wd ((pb ++ pt).drop (k + 1)) (k + 1) by rw [HEQi.out, hdr]; rfl)
      obtain ⟨xf, xu, xg, xn⟩ := x
      simp only at l0 l1 HSI
      have hmb : m ≤ 2000 := by have := HML.out; rw [List.length_append] at this; omega
      clear hx hrep hcell hdr
      by_cases h1 : xf ≤ wd
      case neg =>
        have h1b : decide (xf ≤ wd) = false := decide_eq_false h1
        have HS := Lib.hid (show lineAt wd (pb ++ pt) 0 = lineAt wd ((pb ++ pt).drop (k + 1)) (k + 1) by rw [HSI.out, if_neg (fun e => h1 e.1)])
        clear HSI
        go_wp2_with fail
        go_roundw
        case rel => exact ⟨k + 1, by have := HML.out; omega, by simp, rfl, HS.out⟩
        case measure => simp only [toM]; omega
      by_cases h2 : wd < xu
      case neg =>
        have h2b : decide (wd < xu) = false := decide_eq_false h2
        have HS := Lib.hid (show lineAt wd (pb ++ pt) 0 = lineAt wd ((pb ++ pt).drop (k + 1)) (k + 1) by rw [HSI.out, if_neg (fun e => h2 e.2)])
        clear HSI
        go_wp2_with fail
        go_roundw
        case rel => exact ⟨k + 1, by have := HML.out; omega, by simp, rfl, HS.out⟩
        case measure => simp only [toM]; omega
      have HS := Lib.hid (show whereP b pe pv wd = some (pn, psf, k + 1) by rw [HWH.out, HST2.out, HSI.out, if_pos ⟨h1, h2⟩])
      clear HSI HST2
      go_wp2_with fail
      refine bodyPost_ret (v := .tuple #[.agg #[.int .i64 pn, .int .i64 psf], .int .i64 ((k : Int) + 1), .bool true]) (by simp [results, Tryz.results89, go_sem, *]) rfl ?_
      exact .inr ⟨pn, psf, k + 1, HS.out, by simp, ((HX0.out.trans (HX1.out.trans (HX.out.trans HX2.out))).setCell (p := ⟨z1, 0, none⟩) HZ1.out _).setCell (p := ⟨z1, 1, none⟩) HZ1.out _⟩
end Go.Proofs.YtdbnddmncbjobaaGreatDoor

/- The reference's frozen and Lines: walked. -/
namespace Go.Proofs.YtdbnddmncbjobaaGreatDoor
open Go Go.RowKit

def rfrz (l : List Se) (e : Int) : Bool := match l.find? (fun x => x.ent == e) with | some x => x.fz | none => false
theorem rfrz_in {b : Bk} (h : (b.secs.map (·.ent)).Nodup) (e : Int) : rfrz b.secs e = frzIn b e := by
  unfold rfrz frzIn
  generalize b.secs = l at h ⊢
  induction l with
  | nil => rfl
  | cons x l ih =>
    simp only [List.map_cons, List.nodup_cons] at h
    rw [List.find?_cons, List.any_cons]
    by_cases hx : x.ent = e
    · rw [show (x.ent == e) = true by simpa using hx]
      have : (l.any fun x => x.ent == e && x.fz) = false := by
        rw [List.any_eq_false]
        intro y hy hc
        simp only [Bool.and_eq_true, beq_iff_eq] at hc
        exact h.1 (List.mem_map.2 ⟨y, hy, hc.1.trans hx.symm⟩)
      rw [this]
      simp
    · rw [show (x.ent == e) = false by simpa using hx]
      simpa using ih h.2
def RfR (W : World) (e : Int) (l : List Se) (s5 : Value) (w' : World) : Prop := ∃ i : Nat, i ≤ l.length ∧ s5 = .int .i64 i ∧ (∀ y ∈ l.take i, (y.ent == e) = false) ∧ Ext W w'
theorem find_take {γ : Type} {p : γ → Bool} {l : List γ} {i : Nat} {x : γ} (h : ∀ y ∈ l.take i, p y = false) (hi : l[i]? = some x) (hx : p x = true) : l.find? p = some x := by
  induction l generalizing i with
  | nil => simp at hi
  | cons a l ih =>
    cases i with
    | zero => injection hi with hi; subst hi; rw [List.find?_cons, hx]
    | succ i =>
      rw [List.find?_cons, h a (by simp)]
      exact ih (fun y hy => h y (by simp [hy])) hi
set_option maxHeartbeats 4000000 in
set_option maxRecDepth 100000 in
theorem rfrozen_any (P : Nat → Prop) (w : World) (b : Bk) (e : Int) (A : Option Addr) (N c : Nat) (hr : kSe.row w P A N b.secs) (hN : N ≤ 1000000) :
    Calls Tryz.prog 90 #[.agg #[.int .i64 b.ms, .int .i64 b.ht, .slice A N c], .int .i64 e] w (fun z w' => z = .returned (.bool (rfrz b.secs e)) ∧ Ext w w') := by
  have HL := Lib.hid (Lay.row_len hr)
  have HR := Lib.hid hr
  clear hr
  go_enter Tryz.func90, Tryz.ntmps90
  go_upto_region 1 with (fail)
  obtain ⟨W0, hW0⟩ : ∃ W0, w.alloc (.cells #[.int .i64 b.ms, .int .i64 b.ht, .slice A N c] 27) = W0 := ⟨_, rfl⟩
  obtain ⟨z, hz⟩ : ∃ z, w.heap.size = z := ⟨_, rfl⟩
  have hx0 : Ext w W0 := by rw [← hW0]; exact (Ext.refl w).alloc _
  have hB0 : W0.heap[z]? = some (.cells #[.int .i64 b.ms, .int .i64 b.ht, .slice A N c] 27 (0, 0)) := by rw [← hW0, ← hz]; exact heap_alloc_at _ _ _ _ rfl
  rw [hW0, hz]
  have HX0 := Lib.hid hx0
  have HB0 := Lib.hid hB0
  clear hW0 hz hx0 hB0
  go_wp2_with fail
  go_loopw [5] (fun s5 w' => RfR W0 e b.secs s5 w') (fun s5 _ => toM N s5)
  case atStart => exact ⟨0, by omega, rfl, by simp, Ext.refl _⟩
  case round =>
    obtain ⟨i, hi, rfl, hno, hxr⟩ := hrel
    rw [← HL.out] at hi
    have HNO := Lib.hid hno
    have HXR := Lib.hid hxr
    have a2 := cell_of ((hxr.block _ (lt_of_block HB0.out)).trans HB0.out) (i := 2) (u := .slice A N c) rfl
    clear hno hxr
    by_cases hlt : i < N
    case neg =>
      obtain rfl : i = N := by omega
      have hni : ¬ ((i : Int) < (i : Int)) := by omega
      have HF := Lib.hid (show rfrz b.secs e = false by
        unfold rfrz
        rw [List.find?_eq_none.2 fun y hy => by have := HNO.out y (by rw [HL.out, List.take_length]; exact hy); simp [this]])
      go_wp2_with fail
      go_ret
      exact ⟨by rw [HF.out]; rfl, HX0.out.trans HXR.out⟩
    have hI : (i : Int) < (N : Int) := by omega
    obtain ⟨x, hxi⟩ : ∃ x, b.secs[i]? = some x := ⟨_, List.getElem?_eq_getElem (by have := HL.out; omega)⟩
    obtain ⟨bl, ol, cs, rfl, hbl, _, hrep, hcl⟩ := Lay.row_at (Lay.row_ext HR.out (HX0.out.trans HXR.out)) hxi
    obtain ⟨A1, n1, c1, A2, n2, c2, rfl, _, _, _, _⟩ := kSe_rep.1 hrep
    have y0 := hcl 0 _ rfl
    have y1 := hcl 1 _ rfl
    rw [kSe_sz] at y0 y1
    rw [Nat.add_zero] at y0
    have HXI := Lib.hid hxi
    clear hcl hrep hxi
    by_cases hv : x.ent = e
    · have hb : (x.ent == e) = true := by simpa using hv
      have HF := Lib.hid (show rfrz b.secs e = x.fz by unfold rfrz; rw [find_take HNO.out HXI.out hb])
      clear hv
      go_wp2_with fail
      go_ret
      exact ⟨by rw [HF.out]; rfl, HX0.out.trans HXR.out⟩
    · have hb : (x.ent == e) = false := by simpa using hv
      have HNX := Lib.hid (take_none HNO.out HXI.out hb)
      clear hv
      go_wp2_with fail
      go_roundw
      case rel => exact ⟨i + 1, by have := HL.out; omega, by simp, HNX.out, HXR.out⟩
      case measure => simp only [toM]; omega
end Go.Proofs.YtdbnddmncbjobaaGreatDoor

/- The reference's Of: walked. -/
namespace Go.Proofs.YtdbnddmncbjobaaGreatDoor
open Go Go.RowKit

def whT (o : Option (Int × Int × Nat)) : Int × Int × Int × Bool := match o with | none => (0, 0, 0, false) | some (n, s, i) => (n, s, (i : Int), true)
set_option maxHeartbeats 4000000 in
set_option maxRecDepth 100000 in
theorem rof_any (P : Nat → Prop) (w : World) (b : Bk) (br e v wd : Int) (A : Option Addr) (N c : Nat) (hb : BkI b) (hnd : (b.secs.map (·.ent)).Nodup) (hr : kSe.row w P A N b.secs) (hLN : ∀ p ∈ pagesB b, p.body.length ≤ 1000 ∧ p.nts.length ≤ 1000) :
    Calls Tryz.prog 41 #[.agg #[.int .i64 b.ms, .int .i64 b.ht, .slice A N c], .int .i64 br, .int .i64 e, .int .i64 v, .int .i64 wd] w (OfG w b br e v wd) := by
  have hN : N ≤ 1000000 := by have := Lay.row_len hr; have := hb.s.n; omega
  have HWH := Lib.hid (fun X (hX : Ext w X) => (show Calls Tryz.prog 89 #[.agg #[.int .i64 b.ms, .int .i64 b.ht, .slice A N c], .int .i64 e, .int .i64 v, .int .i64 wd] X (fun z w' => ∃ (n s i : Int) (ok : Bool), whT (whereP b e v wd) = (n, s, i, ok) ∧ z = .returned (.tuple #[.agg #[.int .i64 n, .int .i64 s], .int .i64 i, .bool ok]) ∧ Ext X w') from
    (rwhere_any P X b e v wd A N c hb (Lay.row_ext hr hX) hLN).mono fun z w' h => by
      rcases h with ⟨h1, rfl, h2⟩ | ⟨n, s, i, h1, rfl, h2⟩
      · exact ⟨0, 0, 0, false, by rw [h1]; rfl, rfl, h2⟩
      · exact ⟨n, s, i, true, by rw [h1]; rfl, rfl, h2⟩))
  have HFZ := Lib.hid (fun X (hX : Ext w X) => rfrozen_any P X b e A N c (Lay.row_ext hr hX) hN)
  obtain ⟨fz, hfz⟩ : ∃ fz, rfrz b.secs e = fz := ⟨_, rfl⟩
  have HFI := Lib.hid (show frzIn b e = fz by rw [← rfrz_in hnd, hfz])
  rw [hfz] at HFZ
  clear hb hnd hr hLN hfz
  go_enter Tryz.func41, Tryz.ntmps41
  go_upto_region 1 with (fail)
  obtain ⟨W0, hW0⟩ : ∃ W0, (w.alloc (.cells #[.int .i64 b.ms, .int .i64 b.ht, .slice A N c] 27)).alloc (.cells #[.int .i64 0, .int .i64 0, .int .i64 0, .int .i64 0] 69) = W0 := ⟨_, rfl⟩
  obtain ⟨z, hz⟩ : ∃ z, w.heap.size = z := ⟨_, rfl⟩
  have hx0 : Ext w W0 := by rw [← hW0]; exact ((Ext.refl w).alloc _).alloc _
  have hB0 : W0.heap[z]? = some (.cells #[.int .i64 b.ms, .int .i64 b.ht, .slice A N c] 27 (0, 0)) := by rw [← hW0, ← hz, heap_alloc_old _ _ _ (by simp)]; exact heap_alloc_at _ _ _ _ rfl
  have hB1 : W0.heap[z + 1]? = some (.cells #[.int .i64 0, .int .i64 0, .int .i64 0, .int .i64 0] 69 (0, 0)) := by rw [← hW0, ← hz]; exact heap_alloc_at _ _ _ _ (by simp)
  obtain ⟨z1, hz1⟩ : ∃ z1, z + 1 = z1 := ⟨_, rfl⟩
  rw [hz1] at hB1
  rw [hW0, hz, hz1]
  have HX0 := Lib.hid hx0
  have HZ1 := Lib.hid (show w.heap.size ≤ z1 by omega)
  have HRS := Lib.hid (fun X (hX : Ext W0 X) => CiR.of ((hX.block _ (lt_of_block hB1)).trans hB1))
  have HBC := Lib.hid (fun X (hX : Ext W0 X) => (show X.cell? ⟨z, 0, none⟩ = some (.int .i64 b.ms) ∧ X.cell? ⟨z, 1, none⟩ = some (.int .i64 b.ht) ∧ X.cell? ⟨z, 2, none⟩ = some (.slice A N c) from
    have h9 := (hX.block _ (lt_of_block hB0)).trans hB0
    ⟨cell_of h9 (i := 0) rfl, cell_of h9 (i := 1) rfl, cell_of h9 (i := 2) rfl⟩))
  obtain ⟨a0, a1, a2⟩ := HBC.out _ (Ext.refl _)
  clear hW0 hz hz1 hx0 hB0 hB1
  go_upto_region 2 with (first | (go_at_call 89; refine (HWH.out _ HX0.out).mono ?_; rintro en w1 ⟨n, s, i, ok, hwt, rfl, hx1⟩; have HX1 := Lib.hid hx1; have HWT := Lib.hid hwt; clear hx1 hwt))
  obtain ⟨W2, hW2⟩ : ∃ W2, w1.alloc (.cells #[.int .i64 n, .int .i64 s] 64) = W2 := ⟨_, rfl⟩
  obtain ⟨zl, hzl⟩ : ∃ zl, w1.heap.size = zl := ⟨_, rfl⟩
  have hx2 : Ext w1 W2 := by rw [← hW2]; exact (Ext.refl w1).alloc _
  have hB2 : W2.heap[zl]? = some (.cells #[.int .i64 n, .int .i64 s] 64 (0, 0)) := by rw [← hW2, ← hzl]; exact heap_alloc_at _ _ _ _ rfl
  rw [hW2, hzl]
  have HX2 := Lib.hid (HX1.out.trans hx2)
  have HLB := Lib.hid (fun X (hX : Ext W2 X) => (show X.cell? ⟨zl, 0, none⟩ = some (.int .i64 n) ∧ X.cell? ⟨zl, 1, none⟩ = some (.int .i64 s) from
    have h9 := (hX.block _ (lt_of_block hB2)).trans hB2
    ⟨cell_of h9 (i := 0) rfl, cell_of h9 (i := 1) rfl⟩))
  clear hW2 hzl hx2 hB2 a0 a1 a2
  obtain ⟨k0, k1, k2, k3, j0, j1, j2, j3, y0, y1⟩ := HRS.out _ HX2.out
  obtain ⟨a0, a1, a2⟩ := HBC.out _ HX2.out
  have HXW := Lib.hid (HX0.out.trans HX2.out)
  by_cases q0 : br < 0
  · have HE := Lib.hid (show ofP b br e v wd = none by unfold ofP; rw [if_pos (.inl q0)])
    have g0 : decide (br < 0) = true := by simpa using q0
    go_wp2_with fail
    refine bodyPost_ret (v := .tuple #[.agg #[.int .i64 0, .int .i64 0, .int .i64 0, .int .i64 0], .bool false]) (by simp [results, Tryz.results41, go_sem, *]) rfl ?_
    exact ⟨0, 0, 0, 0, false, by rw [HE.out]; rfl, rfl, ci_ext HXW.out HZ1.out _ _ _ _⟩
  have g0 : decide (br < 0) = false := by simpa using q0
  by_cases q1 : 256 ≤ br
  · have HE := Lib.hid (show ofP b br e v wd = none by unfold ofP; rw [if_pos (.inr (.inl q1))])
    have g1 : decide (256 ≤ br) = true := by simpa using q1
    go_wp2_with fail
    refine bodyPost_ret (v := .tuple #[.agg #[.int .i64 0, .int .i64 0, .int .i64 0, .int .i64 0], .bool false]) (by simp [results, Tryz.results41, go_sem, *]) rfl ?_
    exact ⟨0, 0, 0, 0, false, by rw [HE.out]; rfl, rfl, ci_ext HXW.out HZ1.out _ _ _ _⟩
  have g1 : decide (256 ≤ br) = false := by simpa using q1
  cases ok with
  | false =>
    have HE := Lib.hid (show ofP b br e v wd = none by
      have h9 := HWT.out
      cases hw : whereP b e v wd with
      | none => unfold ofP; rw [hw]; split <;> rfl
      | some x => rw [hw] at h9; obtain ⟨x1, x2, x3⟩ := x; simp [whT] at h9)
    go_wp2_with fail
    refine bodyPost_ret (v := .tuple #[.agg #[.int .i64 0, .int .i64 0, .int .i64 0, .int .i64 0], .bool false]) (by simp [results, Tryz.results41, go_sem, *]) rfl ?_
    exact ⟨0, 0, 0, 0, false, by rw [HE.out]; rfl, rfl, ci_ext HXW.out HZ1.out _ _ _ _⟩
  | true =>
    have HCF := Lib.hid (HFZ.out _ HXW.out)
    clear k0 k1 k2 k3 j0 j1 j2 j3 y0 y1
    cases fz with
    | false =>
      have HE := Lib.hid (show ofP b br e v wd = none by unfold ofP; rw [if_pos (.inr (.inr HFI.out))])
      go_upto_region 3 with (first | (go_at_call 90; refine (HCF.out).mono ?_; rintro en w3 ⟨rfl, hx3⟩; have HX3 := Lib.hid hx3; clear hx3))
      obtain ⟨k0, k1, k2, k3, j0, j1, j2, j3, y0, y1⟩ := HRS.out _ (HX2.out.trans HX3.out)
      go_wp2_with fail
      refine bodyPost_ret (v := .tuple #[.agg #[.int .i64 0, .int .i64 0, .int .i64 0, .int .i64 0], .bool false]) (by simp [results, Tryz.results41, go_sem, *]) rfl ?_
      exact ⟨0, 0, 0, 0, false, by rw [HE.out]; rfl, rfl, ci_ext (HXW.out.trans HX3.out) HZ1.out _ _ _ _⟩
    | true =>
      have HE := Lib.hid (show ofT (ofP b br e v wd) br = (br, n, s, i, true) by
        have e1 : ofP b br e v wd = whereP b e v wd := by unfold ofP; rw [if_neg (by rw [HFI.out]; simp; omega)]
        rw [e1]
        have h9 := HWT.out
        cases hw : whereP b e v wd with
        | none => rw [hw] at h9; simp [whT] at h9
        | some x =>
          obtain ⟨x1, x2, x3⟩ := x
          rw [hw] at h9
          simp only [whT, Prod.mk.injEq] at h9
          simp only [ofT, Prod.mk.injEq]
          exact ⟨trivial, h9.1, h9.2.1, h9.2.2.1, trivial⟩)
      go_upto_region 4 with (first | (go_at_call 90; refine (HCF.out).mono ?_; rintro en w3 ⟨rfl, hx3⟩; have HX3 := Lib.hid hx3; clear hx3))
      obtain ⟨k0, k1, k2, k3, j0, j1, j2, j3, y0, y1⟩ := HRS.out _ (HX2.out.trans HX3.out)
      obtain ⟨l0, l1⟩ := HLB.out _ HX3.out
      go_wp2_with fail
      refine bodyPost_ret (v := .tuple #[.agg #[.int .i64 br, .int .i64 n, .int .i64 s, .int .i64 i], .bool true]) (by simp [results, Tryz.results41, go_sem, *]) rfl ?_
      exact ⟨br, n, s, i, true, HE.out, rfl, ci_ext (HXW.out.trans HX3.out) HZ1.out _ _ _ _⟩
end Go.Proofs.YtdbnddmncbjobaaGreatDoor

/- The law CiteFrozen: walked. -/
namespace Go.Proofs.YtdbnddmncbjobaaGreatDoor
open Go Go.RowKit

end Go.Proofs.YtdbnddmncbjobaaGreatDoor

/- The law CiteOf: walked (printed by genvm.py). -/
namespace Go.Proofs.YtdbnddmncbjobaaGreatDoor
open Go Go.RowKit

theorem ofG_at {w w' : World} {b : Bk} {br e v wd c0 c1 c2 c3 : Int} {ok : Bool} {z : Ending} (ho : ofT (ofP b br e v wd) br = (c0, c1, c2, c3, ok)) (h : OfG w b br e v wd z w') : z = .returned (.tuple #[.agg #[.int .i64 c0, .int .i64 c1, .int .i64 c2, .int .i64 c3], .bool ok]) ∧ Ext w w' := by
  obtain ⟨d0, d1, d2, d3, is, h1, rfl, hx⟩ := h
  rw [ho] at h1
  simp only [Prod.mk.injEq] at h1
  obtain ⟨rfl, rfl, rfl, rfl, rfl⟩ := h1
  exact ⟨rfl, hx⟩
theorem bkI_ln {b : Bk} (h : BkI b) : ∀ p ∈ pagesB b, p.body.length ≤ 1000 ∧ p.nts.length ≤ 1000 := pagesS_ln b.ms b.ht 1000 b.secs 0 h.ln
end Go.Proofs.YtdbnddmncbjobaaGreatDoor
