/- Seals made from numbers: walked. -/
import Derived.Test.YtdbnddmncbjobaaGreatDoorQbh
namespace Go.Proofs.YtdbnddmncbjobaaGreatDoor
open Go Go.RowKit
attribute [local go_sem] Oper.semAt_some

/-- What the seals that are made bear. -/
def OkSea (s : Sea) : Prop := 0 ≤ s.gr ∧ s.gr ≤ 15
def SlR (w1 : World) (s5 s6 : Value) (W : World) : Prop := ∃ (i : Nat) (out : Value) (ls : List Sea), i ≤ 26 ∧ s6 = .int .i64 i ∧ out = s5 ∧ 3 * ls.length ≤ i ∧ (∀ s ∈ ls, OkSea s) ∧ kSea.own 48 W w1.heap.size (fun j => w1.heap.size ≤ j) out ls ∧ Ext w1 W
set_option maxHeartbeats 1000000 in
theorem eqIn_sea (d : Nat) (x y : Sea) (w : World) : (Op.equalIn (d + 1 + 1) 48 (.agg #[.int .i64 x.ent, .int .i64 x.ver, .int .i64 x.fr, .int .i64 x.un, .int .i64 x.gr]) (.agg #[.int .i64 y.ent, .int .i64 y.ver, .int .i64 y.fr, .int .i64 y.un, .int .i64 y.gr])).run Tryz.prog w = .ok (decide (x = y)) w := by
  obtain ⟨a, b, c, f, g⟩ := x
  obtain ⟨a', b', c', f', g'⟩ := y
  rw [Op.equalIn]
  simp [go_sem]
  by_cases h1 : a = a' <;> by_cases h2 : b = b' <;> by_cases h3 : c = c' <;> by_cases h4 : f = f' <;> by_cases h5 : g = g' <;> simp [h1, h2, h3, h4, h5]
theorem eql_sea (x y : Sea) (w : World) : (binOp .eql 48 (.agg #[.int .i64 x.ent, .int .i64 x.ver, .int .i64 x.fr, .int .i64 x.un, .int .i64 x.gr]) (.agg #[.int .i64 y.ent, .int .i64 y.ver, .int .i64 y.fr, .int .i64 y.un, .int .i64 y.gr])).run Tryz.prog w = .ok (.bool (decide (x = y))) w := by
  have h := eqIn_sea 9998 x y w
  simp only [binOp]
  simp [Op.equal, Op.maxDepth, h]
/-- What Seals gives. -/
def SealsGet (w : World) (e : Ending) (w' : World) : Prop := ∃ A1 n1 c1 ls, e = .returned (.slice A1 n1 c1) ∧ n1 ≤ c1 ∧ kSea.row w' (fun j => w.heap.size ≤ j) A1 n1 ls ∧ ls.length ≤ 8 ∧ (∀ s ∈ ls, OkSea s) ∧ Ext w w'
/-- The box of the section that was picked. -/
def SbC (w1 : World) (g : Nat) (c : Array Value) (T : TypeId) (s : Value) (wx : World) : Prop := ∃ z, g ≤ z ∧ s = .pointer (some ⟨z, 0, none⟩) ∧ wx.heap[z]? = some (.cells c T (0, 0)) ∧ Ext w1 wx
/-- Whether a seal was found among the first j. -/
def FoR (wd : World) (nl : Nat) (s11 s12 : Value) (W : World) : Prop := ∃ (j : Nat) (f : Bool), j ≤ nl ∧ s11 = .bool f ∧ s12 = .int .i64 j ∧ Ext wd W
set_option maxHeartbeats 8000000 in
set_option maxRecDepth 100000 in
theorem seals_any (P : Nat → Prop) (w : World) (b : Bk) (A B : Option Addr) (c N cB : Nat) (l : List Int) (hl : IL w A c l) (_hll : l.length ≤ 9223372036854775807) (hb : OkB b 4 3) (hr : kSe.row w P B N b.secs) :
    Calls Tryz.prog 54 #[.slice A l.length c, .agg #[.int .i64 b.ms, .int .i64 b.ht, .slice B N cB]] w (SealsGet w) := by
  have hN : N ≤ 4 := by have := Lay.row_len hr; have := hb.n; omega
  have HPK := Lib.hid (fun X (hX : Ext w X) (i m : Nat) hm hm2 => pick3_any A c l i m X hm hm2 hl.ok (hl.sl.ext hX))
  obtain ⟨m, hm⟩ : ∃ m, l.length = m := ⟨_, rfl⟩
  rw [hm] at HPK _hll ⊢
  clear hl hm
  obtain ⟨w1, hw1⟩ : ∃ w1, w.alloc (.cells #[.int .i64 b.ms, .int .i64 b.ht, .slice B N cB] 27) = w1 := ⟨_, rfl⟩
  have hx : Ext w w1 := by rw [← hw1]; exact (Ext.refl w).alloc _
  have hB : w1.heap[w.heap.size]? = some (.cells #[.int .i64 b.ms, .int .i64 b.ht, .slice B N cB] 27 (0, 0)) := by rw [← hw1]; exact heap_alloc_new w _
  have hbl : w.heap.size < w1.heap.size := lt_of_block hB
  have HQ := Lib.hid (fun X (hX : Ext w1 X) => (show X.cell? ⟨w.heap.size, 2, none⟩ = some (.slice B N cB) from cell_of ((hX.block _ hbl).trans hB) (i := 2) rfl))
  have HX := Lib.hid hx
  have HBL := Lib.hid hbl
  have HL := Lib.hid (Lay.row_len hr)
  have HR := Lib.hid (fun X (hX : Ext w1 X) => Lay.row_ext (Lay.row_ext hr hx) hX)
  have HB := Lib.hid hb
  clear hx hB hr hb hbl
  go_enter Tryz.func54, Tryz.ntmps54
  go_upto_region 1 with (fail)
  clear hw1
  go_wp2_with fail
  go_loopw [5, 6] (fun s5 s6 W => SlR w1 s5 s6 W) (fun _ s6 _ => toM 27 s6)
  case atStart => exact ⟨0, _, [], by omega, rfl, rfl, by simp, (fun s hs => by cases hs), Lay.own_nil _ _ _ _ _, Ext.refl _⟩
  case round =>
    obtain ⟨i, out, ls, hi, rfl, rfl, h3, hok, ho, hxr⟩ := hrel
    have HO := Lib.hid ho
    have HXR := Lib.hid hxr
    have HOK := Lib.hid hok
    have H3 := Lib.hid h3
    clear ho hxr hok h3
    have q2 := HQ.out _ HXR.out
    have hw2 : IntKind.i64.wrap ((i : Int) + 2) = (i : Int) + 2 := IntWalk.i64_in _ (by omega)
    by_cases hgo : (i + 2 < m ∧ i < 24) ∧ 0 < N
    case neg =>
      have hfin : ∃ A1 n1 c1, out = .slice A1 n1 c1 ∧ n1 ≤ c1 ∧ kSea.row wr (fun j => w.heap.size ≤ j) A1 n1 ls := by
        have hlt := Lay.own_lt HO.out
        obtain ⟨A9, c9, e9, h9, hr9⟩ := Lay.own_row HO.out
        exact ⟨A9, _, c9, e9, h9, Lay.row_mono hr9 fun j hj _ => by
          have := HX.out.lt
          rcases hj with hj | hj
          · omega
          · have := (hlt j hj).1; omega⟩
      obtain ⟨A1, n1, c1, rfl, hnc, hr1⟩ := hfin
      have HR1 := Lib.hid hr1
      have HNC := Lib.hid hnc
      clear hr1 hnc
      by_cases h1 : i + 2 < m
      · have g1 : (i : Int) + 2 < (m : Int) := by omega
        by_cases h2 : i < 24
        · have g2 : (i : Int) < 24 := by omega
          have g3 : ¬ (0 : Int) < (N : Int) := by omega
          clear hgo
          go_wp2_with fail
          go_ret
          exact ⟨A1, n1, c1, ls, rfl, HNC.out, HR1.out, by have := H3.out; omega, HOK.out, HX.out.trans HXR.out⟩
        · have g2 : ¬ (i : Int) < 24 := by omega
          clear hgo
          go_wp2_with fail
          go_ret
          exact ⟨A1, n1, c1, ls, rfl, HNC.out, HR1.out, by have := H3.out; omega, HOK.out, HX.out.trans HXR.out⟩
      · have g1 : ¬ (i : Int) + 2 < (m : Int) := by omega
        clear hgo
        go_wp2_with fail
        go_ret
        exact ⟨A1, n1, c1, ls, rfl, HNC.out, HR1.out, by have := H3.out; omega, HOK.out, HX.out.trans HXR.out⟩
    obtain ⟨⟨g1', g2'⟩, g3'⟩ := hgo
    have g1 : (i : Int) + 2 < (m : Int) := by omega
    have g2 : (i : Int) < 24 := by omega
    have g3 : (0 : Int) < (N : Int) := by omega
    obtain ⟨k, hk, hkN⟩ := pk_nat l i N (by omega)
    have HPN := Lib.hid (fun X (hX : Ext w1 X) => (show Calls Tryz.prog 65 #[.slice A m c, .int .i64 (i : Int), .int .i64 (N : Int)] X (fun e w' => e = .returned (.int .i64 (k : Int)) ∧ X = w') from by rw [← hk]; exact HPK.out X (HX.out.trans hX) i N (by omega) (by omega)))
    clear hk
    have hI : (k : Int) < (N : Int) := by omega
    obtain ⟨x, hxi⟩ : ∃ x, b.secs[k]? = some x := ⟨_, List.getElem?_eq_getElem (by have := HL.out; omega)⟩
    obtain ⟨bs, os, cs, rfl, hbs, _, hrep, hcs⟩ := Lay.row_at (HR.out _ HXR.out) hxi
    obtain ⟨A1, n1, c1, A2, n2, c2, rfl, hn1, hn2, hr1, hr2⟩ := kSe_rep.1 hrep
    have e0 := hcs 0 _ rfl
    have e1 := hcs 1 _ rfl
    have e2 := hcs 2 _ rfl
    have e3 := hcs 3 _ rfl
    rw [kSe_sz] at e0 e1 e2 e3
    rw [Nat.add_zero] at e0
    have HXI := Lib.hid (List.mem_of_getElem? hxi)
    have HR1 := Lib.hid hr1
    have HR2 := Lib.hid hr2
    clear hrep hcs hr1 hr2 hxi
    go_upto_region 5 with (fail)
    go_cut [7] (fun s7 wx => SbC wr wr.heap.size #[.int .i64 x.ent, .bool x.fz, .slice A1 n1 c1, .slice A2 n2 c2] 46 s7 wx)
    case first =>
      have hbl2 : w.heap.size < wr.heap.size := Nat.lt_of_lt_of_le HBL.out HXR.out.lt
      have HZ1 := Lib.hid (heap_alloc_new wr (.cells #[.int .i64 x.ent, .bool x.fz, .slice A1 n1 c1, .slice A2 n2 c2] 46))
      have HXD := Lib.hid (show Ext wr (wr.alloc (.cells #[.int .i64 x.ent, .bool x.fz, .slice A1 n1 c1, .slice A2 n2 c2] 46)).drew from ((Ext.refl wr).alloc _).drew)
      have HPN2 := Lib.hid (fun X (hX : Ext wr X) => HPN.out X (HXR.out.trans hX))
      go_region_law (first
        | (go_simp; go_at_call 65; refine (HPN2.out _ (by first | exact Ext.refl _ | exact (Ext.refl wr).drew | exact (Ext.refl wr).alloc _ | exact ((Ext.refl wr).alloc _).drew | exact (Ext.refl wr).drew.alloc _)).mono ?_; rintro e w2 ⟨rfl, rfl⟩; simp only []))
      all_goals
        go_wp2
        go_meet
        case rel => exact ⟨wr.heap.size, Nat.le_refl _, rfl, HZ1.out, HXD.out⟩
    case rest =>
      obtain ⟨z, hzl, rfl, hz, hxz⟩ := hcut
      have hl := HB.out.vs x HXI.out
      have e9 := Lay.row_len HR1.out
      have e8 := Lay.row_len HR2.out
      obtain rfl : n1 = n2 := by omega
      have hn11 : 1 ≤ n1 := by
        have h9 := hl.2.1
        have : x.vers.length ≠ 0 := fun e => h9 (List.eq_nil_of_length_eq_zero e)
        omega
      have hn10 : n1 ≤ 3 := by omega
      have HXC := Lib.hid (HXR.out.trans hxz)
      have hxz' := Lib.hid hxz
      have hzl2 := lt_of_block hz
      have y0 := cell_of hz (i := 0) (u := .int .i64 x.ent) rfl
      have y2 := cell_of hz (i := 2) (u := .slice A1 n1 c1) rfl
      have y3 := cell_of hz (i := 3) (u := .slice A2 n1 c2) rfl
      obtain ⟨v, hv, hvb⟩ := pk_nat l (i + 1) n1 hn11
      obtain ⟨gr, hgr, hgrb⟩ := pk_nat l (i + 1) 16 (by omega)
      obtain ⟨p7, hp7, hp7b⟩ := pk_nat l (i + 2) 7 (by omega)
      have en1 : ((i + 1 : Nat) : Int) = (i : Int) + 1 := by omega
      have en2 : ((i + 2 : Nat) : Int) = (i : Int) + 2 := by omega
      have HAV := Lib.hid (fun X (hX : Ext w1 X) => (show Calls Tryz.prog 65 #[.slice A m c, .int .i64 ((i : Int) + 1), .int .i64 (n1 : Int)] X (fun e w' => e = .returned (.int .i64 (v : Int)) ∧ X = w') from by rw [← hv, ← en1]; exact HPK.out X (HX.out.trans hX) (i + 1) n1 (by omega) (by omega)))
      have HAG := Lib.hid (fun X (hX : Ext w1 X) => (show Calls Tryz.prog 65 #[.slice A m c, .int .i64 ((i : Int) + 1), .int .i64 16] X (fun e w' => e = .returned (.int .i64 (gr : Int)) ∧ X = w') from by rw [← hgr, ← en1]; exact HPK.out X (HX.out.trans hX) (i + 1) 16 (by omega) (by omega)))
      have HA7 := Lib.hid (fun X (hX : Ext w1 X) => (show Calls Tryz.prog 65 #[.slice A m c, .int .i64 ((i : Int) + 2), .int .i64 7] X (fun e w' => e = .returned (.int .i64 (p7 : Int)) ∧ X = w') from by rw [← hp7, ← en2]; exact HPK.out X (HX.out.trans hX) (i + 2) 7 (by omega) (by omega)))
      clear hv hgr hp7
      have hV : (v : Int) < (n1 : Int) := by omega
      have gn1 : ((n1 : Int) == 0) = false := by simp; omega
      have hwi1 : IntKind.i64.wrap ((i : Int) + 1) = (i : Int) + 1 := IntWalk.i64_in _ (by omega)
      obtain ⟨vk, hvk⟩ : ∃ vk, x.vers[v]? = some vk := ⟨_, List.getElem?_eq_getElem (by omega)⟩
      obtain ⟨tk, htk⟩ : ∃ tk, x.texts[v]? = some tk := ⟨_, List.getElem?_eq_getElem (by omega)⟩
      obtain ⟨bv, ov, cv, rfl, hbv, _, hrv, hcv⟩ := Lay.row_at (Lay.row_ext HR1.out hxz) hvk
      obtain ⟨bt, ot, ct, rfl, hbt, _, hrt, hct⟩ := Lay.row_at (Lay.row_ext HR2.out hxz) htk
      obtain rfl : cv = [.int .i64 vk] := hrv
      obtain ⟨A3, n3, c3, A4, n4, c4, rfl, _, _, hr3, hr4⟩ := kTx_rep.1 hrt
      have v0 := hcv 0 _ rfl
      rw [show kInt.sz = 1 from rfl, Nat.mul_one, Nat.add_zero] at v0
      have t0 := hct 0 _ rfl
      have t1 := hct 1 _ rfl
      rw [kTx_sz] at t0 t1
      rw [Nat.add_zero] at t0
      have htx := HB.out.tx x HXI.out tk (List.mem_of_getElem? htk)
      have hp0 : ∀ p ∈ tk.paras ++ tk.notes, p.length ≤ 40 := fun p hp => by
        rcases List.mem_append.1 hp with h9 | h9
        · exact (htx.par.len p h9).2
        · have := (htx.len p h9).2; omega
      have h3n := Lay.row_len hr3
      have h4n := Lay.row_len hr4
      have hnp := htx.np
      have hnn := htx.nn
      obtain ⟨nw, hnw⟩ : ∃ nw, (tk.paras ++ tk.notes).flatten.length = nw := ⟨_, rfl⟩
      have hnwb : nw ≤ 10000 := by
        have h9 := flat_lt (ps := tk.paras ++ tk.notes) fun p hp => by have := hp0 p hp; omega
        rw [List.length_append] at h9
        omega
      have HCO := Lib.hid (fun X (hX : Ext wc X) => (show Calls Tryz.prog 108 #[.agg #[.slice A3 n3 c3, .slice A4 n4 c4]] X (fun e w' => e = .returned (.int .i64 (nw : Nat)) ∧ Ext X w') from by
        rw [← hnw]
        exact count108_any _ X A3 A4 n3 n4 c3 c4 tk (Lay.row_ext hr3 hX) (Lay.row_ext hr4 hX) (by omega) (by omega) fun p hp => by have := hp0 p hp; omega))
      clear hnw h3n h4n hnp hnn htx hp0
      obtain ⟨M, hM⟩ : ∃ M : Nat, max nw 1 = M := ⟨_, rfl⟩
      have hMi : max (nw : Int) 1 = (M : Int) := by omega
      obtain ⟨fr, hfr, hfrb⟩ := pk_nat l (i + 2) M (by omega)
      have HAF := Lib.hid (fun X (hX : Ext w1 X) => (show Calls Tryz.prog 65 #[.slice A m c, .int .i64 ((i : Int) + 2), .int .i64 (M : Int)] X (fun e w' => e = .returned (.int .i64 (fr : Int)) ∧ X = w') from by rw [← hfr, ← en2]; exact HPK.out X (HX.out.trans hX) (i + 2) M (by omega) (by omega)))
      clear hfr
      have HQZ := Lib.hid (fun X (hX : Ext wc X) => (show X.cell? ⟨z, 0, none⟩ = some (.int .i64 x.ent) ∧ X.cell? ⟨z, 2, none⟩ = some (.slice (some ⟨bv, ov, none⟩) n1 c1) ∧ X.cell? ⟨z, 3, none⟩ = some (.slice (some ⟨bt, ot, none⟩) n1 c2) ∧ X.cell? ⟨bv, ov + v, none⟩ = some (.int .i64 vk) from
        ⟨(hX.cells.1 _ _ hzl2).trans y0, (hX.cells.1 _ _ hzl2).trans y2, (hX.cells.1 _ _ hzl2).trans y3, (hX.cells.1 _ _ hbv).trans v0⟩))
      clear hvk htk hcv hct hrt hr3 hr4 hz hxz HR1 HR2 hl e9 e8 q2 e0 e1 e2 e3 en1 en2
      have HAV2 := Lib.hid (fun X (hX : Ext wc X) => HAV.out X (HXC.out.trans hX))
      go_upto_region 9 with (first
        | (go_at_call 65; refine (HAV.out _ HXC.out).mono ?_; rintro e w2 ⟨rfl, rfl⟩)
        | (go_at_call 108; refine (HCO.out _ (Ext.refl _)).mono ?_; rintro e w2 ⟨rfl, hx2⟩; have HX2 := Lib.hid hx2; clear hx2))
      have hw21 : IntKind.i64.wrap ((i : Int) + 2) = (i : Int) + 2 := IntWalk.i64_in _ (by omega)
      have HXC2 := Lib.hid (HXC.out.trans HX2.out)
      have HQ9 := Lib.hid (fun X (hX : Ext w2 X) => HQZ.out X (HX2.out.trans hX))
      have HAF9 := Lib.hid (fun X (hX : Ext w2 X) => HAF.out X (HXC2.out.trans hX))
      have HAG9 := Lib.hid (fun X (hX : Ext w2 X) => HAG.out X (HXC2.out.trans hX))
      have hcur : Ext w2 w2.drew := (Ext.refl _).drew
      clear y0 y2 y3 v0 t0 t1
      go_cut [10] (fun s10 wx => SbC w2 w2.heap.size #[.int .i64 x.ent, .int .i64 vk, .int .i64 (fr : Int), .int .i64 0, .int .i64 (gr : Int)] 48 s10 wx)
      case first =>
        have HZ2 := Lib.hid (show SbC w2 w2.heap.size #[.int .i64 x.ent, .int .i64 vk, .int .i64 (fr : Int), .int .i64 0, .int .i64 (gr : Int)] 48 (.pointer (some ⟨w2.heap.size, 0, none⟩)) (w2.drew.alloc (.cells #[.int .i64 x.ent, .int .i64 vk, .int .i64 (fr : Int), .int .i64 0, .int .i64 (gr : Int)] 48)) from ⟨_, Nat.le_refl _, rfl, heap_alloc_new w2.drew _, (Ext.refl w2).drew.alloc _⟩)
        have hS0 : (fun X : World => X.cell? ⟨z, 0, none⟩ = some (.int .i64 x.ent) ∧ X.cell? ⟨z, 2, none⟩ = some (.slice (some ⟨bv, ov, none⟩) n1 c1) ∧ X.cell? ⟨z, 3, none⟩ = some (.slice (some ⟨bt, ot, none⟩) n1 c2) ∧ X.cell? ⟨bv, ov + v, none⟩ = some (.int .i64 vk)) w2.drew := HQ9.out _ hcur
        refine wp_region_E (fun X : World => X.cell? ⟨z, 0, none⟩ = some (.int .i64 x.ent) ∧ X.cell? ⟨z, 2, none⟩ = some (.slice (some ⟨bv, ov, none⟩) n1 c1) ∧ X.cell? ⟨z, 3, none⟩ = some (.slice (some ⟨bt, ot, none⟩) n1 c2) ∧ X.cell? ⟨bv, ov + v, none⟩ = some (.int .i64 vk)) (fun _ => True) (fun i => i == 19) (by kernel_rfl) ?_
        refine wpE_takeS (i := 0) (d := some 57) (v := .pointer (some ⟨z, 0, none⟩)) rfl rfl (by kernel_rfl) (by kernel_rfl) (by kernel_rfl) (by kernel_rfl) (fun _ _ _ h => h) (by rfl) ?hya1 hS0 trivial ?goa1
        case hya1 =>
          intro w9 hT9
          clear hT9; go_simp
        (try simp only [Act.put, List.setIfInBounds_toArray, List.set_cons_zero, List.set_cons_succ])
        refine wpE_takeS (i := 1) (d := some 58) (v := .int .i64 x.ent) rfl rfl (by kernel_rfl) (by kernel_rfl) (by kernel_rfl) (by kernel_rfl) (fun _ _ _ h => h) (by rfl) ?hya2 hS0 trivial ?goa2
        case hya2 =>
          intro w9 hT9
          obtain ⟨y0, y1, y2, y3⟩ := hT9; go_simp
        (try simp only [Act.put, List.setIfInBounds_toArray, List.set_cons_zero, List.set_cons_succ])
        refine wpE_takeS (i := 2) (d := some 59) (v := .pointer (some ⟨z, 2, none⟩)) rfl rfl (by kernel_rfl) (by kernel_rfl) (by kernel_rfl) (by kernel_rfl) (fun _ _ _ h => h) (by rfl) ?hya3 hS0 trivial ?goa3
        case hya3 =>
          intro w9 hT9
          clear hT9; go_simp
        (try simp only [Act.put, List.setIfInBounds_toArray, List.set_cons_zero, List.set_cons_succ])
        refine wpE_takeS (i := 3) (d := some 60) (v := .slice (some ⟨bv, ov, none⟩) n1 c1) rfl rfl (by kernel_rfl) (by kernel_rfl) (by kernel_rfl) (by kernel_rfl) (fun _ _ _ h => h) (by rfl) ?hya4 hS0 trivial ?goa4
        case hya4 =>
          intro w9 hT9
          obtain ⟨y0, y1, y2, y3⟩ := hT9; go_simp
        (try simp only [Act.put, List.setIfInBounds_toArray, List.set_cons_zero, List.set_cons_succ])
        refine wpE_takeS (i := 4) (d := some 61) (v := .int .i64 (v : Int)) rfl rfl (by kernel_rfl) (by kernel_rfl) (by kernel_rfl) (by kernel_rfl) (fun _ _ _ h => h) (by rfl) ?hya5 hS0 trivial ?goa5
        case hya5 =>
          intro w9 hT9
          clear hT9; go_simp
        (try simp only [Act.put, List.setIfInBounds_toArray, List.set_cons_zero, List.set_cons_succ])
        refine wpE_takeS (i := 5) (d := some 62) (v := .pointer (some ⟨bv, ov + v, none⟩)) rfl rfl (by kernel_rfl) (by kernel_rfl) (by kernel_rfl) (by kernel_rfl) (fun _ _ _ h => h) (by rfl) ?hya6 hS0 trivial ?goa6
        case hya6 =>
          intro w9 hT9
          clear hT9; go_simp
        (try simp only [Act.put, List.setIfInBounds_toArray, List.set_cons_zero, List.set_cons_succ])
        refine wpE_takeS (i := 6) (d := some 63) (v := .int .i64 vk) rfl rfl (by kernel_rfl) (by kernel_rfl) (by kernel_rfl) (by kernel_rfl) (fun _ _ _ h => h) (by rfl) ?hya7 hS0 trivial ?goa7
        case hya7 =>
          intro w9 hT9
          obtain ⟨y0, y1, y2, y3⟩ := hT9; go_simp
        (try simp only [Act.put, List.setIfInBounds_toArray, List.set_cons_zero, List.set_cons_succ])
        refine wpE_takeS (i := 7) (d := some 64) (v := .slice A m c) rfl rfl (by kernel_rfl) (by kernel_rfl) (by kernel_rfl) (by kernel_rfl) (fun _ _ _ h => h) (by rfl) ?hya8 hS0 trivial ?goa8
        case hya8 =>
          intro w9 hT9
          clear hT9; go_simp
        (try simp only [Act.put, List.setIfInBounds_toArray, List.set_cons_zero, List.set_cons_succ])
        refine wpE_takeS (i := 8) (d := some 65) (v := .int .i64 (i : Int)) rfl rfl (by kernel_rfl) (by kernel_rfl) (by kernel_rfl) (by kernel_rfl) (fun _ _ _ h => h) (by rfl) ?hya9 hS0 trivial ?goa9
        case hya9 =>
          intro w9 hT9
          clear hT9; go_simp
        (try simp only [Act.put, List.setIfInBounds_toArray, List.set_cons_zero, List.set_cons_succ])
        refine wpE_takeS (i := 9) (d := some 66) (v := .int .i64 ((i : Int) + 2)) rfl rfl (by kernel_rfl) (by kernel_rfl) (by kernel_rfl) (by kernel_rfl) (fun _ _ _ h => h) (by rfl) ?hya10 hS0 trivial ?goa10
        case hya10 =>
          intro w9 hT9
          clear hT9; go_simp
        (try simp only [Act.put, List.setIfInBounds_toArray, List.set_cons_zero, List.set_cons_succ])
        refine wpE_takeS (i := 10) (d := some 67) (v := .int .i64 (nw : Int)) rfl rfl (by kernel_rfl) (by kernel_rfl) (by kernel_rfl) (by kernel_rfl) (fun _ _ _ h => h) (by rfl) ?hya11 hS0 trivial ?goa11
        case hya11 =>
          intro w9 hT9
          clear hT9; go_simp
        (try simp only [Act.put, List.setIfInBounds_toArray, List.set_cons_zero, List.set_cons_succ])
        refine wpE_takeS (i := 13) (d := some 70) (v := .slice A m c) rfl rfl (by kernel_rfl) (by kernel_rfl) (by kernel_rfl) (by kernel_rfl) (fun _ _ _ h => h) (by rfl) ?hya12 hS0 trivial ?goa12
        case hya12 =>
          intro w9 hT9
          clear hT9; go_simp
        (try simp only [Act.put, List.setIfInBounds_toArray, List.set_cons_zero, List.set_cons_succ])
        refine wpE_takeS (i := 14) (d := some 71) (v := .int .i64 (i : Int)) rfl rfl (by kernel_rfl) (by kernel_rfl) (by kernel_rfl) (by kernel_rfl) (fun _ _ _ h => h) (by rfl) ?hya13 hS0 trivial ?goa13
        case hya13 =>
          intro w9 hT9
          clear hT9; go_simp
        (try simp only [Act.put, List.setIfInBounds_toArray, List.set_cons_zero, List.set_cons_succ])
        refine wpE_takeS (i := 15) (d := some 72) (v := .int .i64 ((i : Int) + 1)) rfl rfl (by kernel_rfl) (by kernel_rfl) (by kernel_rfl) (by kernel_rfl) (fun _ _ _ h => h) (by rfl) ?hya14 hS0 trivial ?goa14
        case hya14 =>
          intro w9 hT9
          clear hT9; go_simp
        (try simp only [Act.put, List.setIfInBounds_toArray, List.set_cons_zero, List.set_cons_succ])
        refine wpE_all (rs := [11, 18]) (by kernel_rfl) (by simp) ?_
        refine AllE.cons rfl (fun K hK => ?_) (AllE.cons rfl (fun K hK => ?_) AllE.nil)
        · skip
          simp only [List.getElem_toArray, List.getElem_cons_succ, List.getElem_cons_zero]
          go_simp
          refine hK.out _ _ ⟨fun _ => (HQ9.out _ hcur), trivial⟩ (fun _ => ?_)
          clear hK K
          have hS0 := (HQ9.out _ hcur)
          (try simp only [Act.put, List.setIfInBounds_toArray, List.set_cons_zero, List.set_cons_succ])
          refine wpE_all (rs := [12, 18]) (by kernel_rfl) (by simp) ?_
          refine AllE.cons rfl (fun K hK => ?_) (AllE.cons rfl (fun K hK => ?_) AllE.nil)
          · skip
            simp only [List.getElem_toArray, List.getElem_cons_succ, List.getElem_cons_zero]
            go_simp
            go_at_call 65
            refine (HAF9.out _ hcur).mono ?_
            rintro z9 w9 ⟨rfl, rfl⟩
            simp only []
            refine hK.out _ _ ⟨fun _ => (HQ9.out _ hcur), trivial⟩ (fun _ => ?_)
            clear hK K
            have hS0 := (HQ9.out _ hcur)
            (try simp only [Act.put, List.setIfInBounds_toArray, List.set_cons_zero, List.set_cons_succ])
            refine wpE_all (rs := [16, 18]) (by kernel_rfl) (by simp) ?_
            refine AllE.cons rfl (fun K hK => ?_) (AllE.cons rfl (fun K hK => ?_) AllE.nil)
            · skip
              simp only [List.getElem_toArray, List.getElem_cons_succ, List.getElem_cons_zero]
              go_simp
              go_at_call 65
              refine (HAG9.out _ hcur).mono ?_
              rintro z9 w9 ⟨rfl, rfl⟩
              simp only []
              refine hK.out _ _ ⟨fun _ => (HQ9.out _ hcur), trivial⟩ (fun _ => ?_)
              clear hK K
              have hS0 := (HQ9.out _ hcur)
              (try simp only [Act.put, List.setIfInBounds_toArray, List.set_cons_zero, List.set_cons_succ])
              refine wpE_takeS (i := 17) (d := some 74) (v := .agg #[.int .i64 x.ent, .int .i64 vk, .int .i64 (fr : Int), .int .i64 0, .int .i64 (gr : Int)]) rfl rfl (by kernel_rfl) (by kernel_rfl) (by kernel_rfl) (by kernel_rfl) (fun _ _ _ h => h) (by rfl) ?hya15 hS0 trivial ?goa15
              case hya15 =>
                intro w9 hT9
                clear hT9; go_simp
              (try simp only [Act.put, List.setIfInBounds_toArray, List.set_cons_zero, List.set_cons_succ])
              refine wpE_all (rs := [18]) (by kernel_rfl) (by simp) ?_
              refine AllE.cons rfl (fun K hK => ?_) AllE.nil
              simp only [List.getElem_toArray, List.getElem_cons_succ, List.getElem_cons_zero]
              go_simp
              refine hK.out _ _ ⟨fun _ => (HQ9.out _ (hcur.alloc (.cells #[.int .i64 0, .int .i64 0, .int .i64 0, .int .i64 0, .int .i64 0] 48))), trivial⟩ (fun _ => ?_)
              clear hK K
              have hS0 := (HQ9.out _ (hcur.alloc (.cells #[.int .i64 0, .int .i64 0, .int .i64 0, .int .i64 0, .int .i64 0] 48)))
              (try simp only [Act.put, List.setIfInBounds_toArray, List.set_cons_zero, List.set_cons_succ])
              refine wpE_all (rs := [19]) (by kernel_rfl) (by simp) ?_
              refine AllE.cons rfl (fun K hK => ?_) AllE.nil
              simp only [List.getElem_toArray, List.getElem_cons_succ, List.getElem_cons_zero]
              go_simp
              refine hK.out _ _ ⟨fun h => absurd h (by simp), trivial⟩ (fun _ => ?_)
              clear hK K
              (try simp only [Act.put, List.setIfInBounds_toArray, List.set_cons_zero, List.set_cons_succ])
              refine wpE_done (by kernel_rfl) ?_ _
              go_wp2_with fail
              go_meet
              case rel => exact HZ2.out
            · skip
              simp only [List.getElem_toArray, List.getElem_cons_succ, List.getElem_cons_zero]
              go_simp
              refine hK.out _ _ ⟨fun _ => (HQ9.out _ (hcur.alloc (.cells #[.int .i64 0, .int .i64 0, .int .i64 0, .int .i64 0, .int .i64 0] 48))), trivial⟩ (fun _ => ?_)
              clear hK K
              have hS0 := (HQ9.out _ (hcur.alloc (.cells #[.int .i64 0, .int .i64 0, .int .i64 0, .int .i64 0, .int .i64 0] 48)))
              (try simp only [Act.put, List.setIfInBounds_toArray, List.set_cons_zero, List.set_cons_succ])
              refine wpE_all (rs := [16]) (by kernel_rfl) (by simp) ?_
              refine AllE.cons rfl (fun K hK => ?_) AllE.nil
              simp only [List.getElem_toArray, List.getElem_cons_succ, List.getElem_cons_zero]
              go_simp
              go_at_call 65
              refine (HAG9.out _ (hcur.alloc (.cells #[.int .i64 0, .int .i64 0, .int .i64 0, .int .i64 0, .int .i64 0] 48))).mono ?_
              rintro z9 w9 ⟨rfl, rfl⟩
              simp only []
              refine hK.out _ _ ⟨fun _ => (HQ9.out _ (hcur.alloc (.cells #[.int .i64 0, .int .i64 0, .int .i64 0, .int .i64 0, .int .i64 0] 48))), trivial⟩ (fun _ => ?_)
              clear hK K
              have hS0 := (HQ9.out _ (hcur.alloc (.cells #[.int .i64 0, .int .i64 0, .int .i64 0, .int .i64 0, .int .i64 0] 48)))
              (try simp only [Act.put, List.setIfInBounds_toArray, List.set_cons_zero, List.set_cons_succ])
              refine wpE_takeS (i := 17) (d := some 74) (v := .agg #[.int .i64 x.ent, .int .i64 vk, .int .i64 (fr : Int), .int .i64 0, .int .i64 (gr : Int)]) rfl rfl (by kernel_rfl) (by kernel_rfl) (by kernel_rfl) (by kernel_rfl) (fun _ _ _ h => h) (by rfl) ?hya16 hS0 trivial ?goa16
              case hya16 =>
                intro w9 hT9
                clear hT9; go_simp
              (try simp only [Act.put, List.setIfInBounds_toArray, List.set_cons_zero, List.set_cons_succ])
              refine wpE_all (rs := [19]) (by kernel_rfl) (by simp) ?_
              refine AllE.cons rfl (fun K hK => ?_) AllE.nil
              simp only [List.getElem_toArray, List.getElem_cons_succ, List.getElem_cons_zero]
              go_simp
              refine hK.out _ _ ⟨fun h => absurd h (by simp), trivial⟩ (fun _ => ?_)
              clear hK K
              (try simp only [Act.put, List.setIfInBounds_toArray, List.set_cons_zero, List.set_cons_succ])
              refine wpE_done (by kernel_rfl) ?_ _
              go_wp2_with fail
              go_meet
              case rel => exact HZ2.out
          · skip
            simp only [List.getElem_toArray, List.getElem_cons_succ, List.getElem_cons_zero]
            go_simp
            refine hK.out _ _ ⟨fun _ => (HQ9.out _ (hcur.alloc (.cells #[.int .i64 0, .int .i64 0, .int .i64 0, .int .i64 0, .int .i64 0] 48))), trivial⟩ (fun _ => ?_)
            clear hK K
            have hS0 := (HQ9.out _ (hcur.alloc (.cells #[.int .i64 0, .int .i64 0, .int .i64 0, .int .i64 0, .int .i64 0] 48)))
            (try simp only [Act.put, List.setIfInBounds_toArray, List.set_cons_zero, List.set_cons_succ])
            refine wpE_all (rs := [12]) (by kernel_rfl) (by simp) ?_
            refine AllE.cons rfl (fun K hK => ?_) AllE.nil
            simp only [List.getElem_toArray, List.getElem_cons_succ, List.getElem_cons_zero]
            go_simp
            go_at_call 65
            refine (HAF9.out _ (hcur.alloc (.cells #[.int .i64 0, .int .i64 0, .int .i64 0, .int .i64 0, .int .i64 0] 48))).mono ?_
            rintro z9 w9 ⟨rfl, rfl⟩
            simp only []
            refine hK.out _ _ ⟨fun _ => (HQ9.out _ (hcur.alloc (.cells #[.int .i64 0, .int .i64 0, .int .i64 0, .int .i64 0, .int .i64 0] 48))), trivial⟩ (fun _ => ?_)
            clear hK K
            have hS0 := (HQ9.out _ (hcur.alloc (.cells #[.int .i64 0, .int .i64 0, .int .i64 0, .int .i64 0, .int .i64 0] 48)))
            (try simp only [Act.put, List.setIfInBounds_toArray, List.set_cons_zero, List.set_cons_succ])
            refine wpE_all (rs := [16]) (by kernel_rfl) (by simp) ?_
            refine AllE.cons rfl (fun K hK => ?_) AllE.nil
            simp only [List.getElem_toArray, List.getElem_cons_succ, List.getElem_cons_zero]
            go_simp
            go_at_call 65
            refine (HAG9.out _ (hcur.alloc (.cells #[.int .i64 0, .int .i64 0, .int .i64 0, .int .i64 0, .int .i64 0] 48))).mono ?_
            rintro z9 w9 ⟨rfl, rfl⟩
            simp only []
            refine hK.out _ _ ⟨fun _ => (HQ9.out _ (hcur.alloc (.cells #[.int .i64 0, .int .i64 0, .int .i64 0, .int .i64 0, .int .i64 0] 48))), trivial⟩ (fun _ => ?_)
            clear hK K
            have hS0 := (HQ9.out _ (hcur.alloc (.cells #[.int .i64 0, .int .i64 0, .int .i64 0, .int .i64 0, .int .i64 0] 48)))
            (try simp only [Act.put, List.setIfInBounds_toArray, List.set_cons_zero, List.set_cons_succ])
            refine wpE_takeS (i := 17) (d := some 74) (v := .agg #[.int .i64 x.ent, .int .i64 vk, .int .i64 (fr : Int), .int .i64 0, .int .i64 (gr : Int)]) rfl rfl (by kernel_rfl) (by kernel_rfl) (by kernel_rfl) (by kernel_rfl) (fun _ _ _ h => h) (by rfl) ?hya17 hS0 trivial ?goa17
            case hya17 =>
              intro w9 hT9
              clear hT9; go_simp
            (try simp only [Act.put, List.setIfInBounds_toArray, List.set_cons_zero, List.set_cons_succ])
            refine wpE_all (rs := [19]) (by kernel_rfl) (by simp) ?_
            refine AllE.cons rfl (fun K hK => ?_) AllE.nil
            simp only [List.getElem_toArray, List.getElem_cons_succ, List.getElem_cons_zero]
            go_simp
            refine hK.out _ _ ⟨fun h => absurd h (by simp), trivial⟩ (fun _ => ?_)
            clear hK K
            (try simp only [Act.put, List.setIfInBounds_toArray, List.set_cons_zero, List.set_cons_succ])
            refine wpE_done (by kernel_rfl) ?_ _
            go_wp2_with fail
            go_meet
            case rel => exact HZ2.out
        · skip
          simp only [List.getElem_toArray, List.getElem_cons_succ, List.getElem_cons_zero]
          go_simp
          refine hK.out _ _ ⟨fun _ => (HQ9.out _ (hcur.alloc (.cells #[.int .i64 0, .int .i64 0, .int .i64 0, .int .i64 0, .int .i64 0] 48))), trivial⟩ (fun _ => ?_)
          clear hK K
          have hS0 := (HQ9.out _ (hcur.alloc (.cells #[.int .i64 0, .int .i64 0, .int .i64 0, .int .i64 0, .int .i64 0] 48)))
          (try simp only [Act.put, List.setIfInBounds_toArray, List.set_cons_zero, List.set_cons_succ])
          refine wpE_all (rs := [11]) (by kernel_rfl) (by simp) ?_
          refine AllE.cons rfl (fun K hK => ?_) AllE.nil
          simp only [List.getElem_toArray, List.getElem_cons_succ, List.getElem_cons_zero]
          go_simp
          refine hK.out _ _ ⟨fun _ => (HQ9.out _ (hcur.alloc (.cells #[.int .i64 0, .int .i64 0, .int .i64 0, .int .i64 0, .int .i64 0] 48))), trivial⟩ (fun _ => ?_)
          clear hK K
          have hS0 := (HQ9.out _ (hcur.alloc (.cells #[.int .i64 0, .int .i64 0, .int .i64 0, .int .i64 0, .int .i64 0] 48)))
          (try simp only [Act.put, List.setIfInBounds_toArray, List.set_cons_zero, List.set_cons_succ])
          refine wpE_all (rs := [12]) (by kernel_rfl) (by simp) ?_
          refine AllE.cons rfl (fun K hK => ?_) AllE.nil
          simp only [List.getElem_toArray, List.getElem_cons_succ, List.getElem_cons_zero]
          go_simp
          go_at_call 65
          refine (HAF9.out _ (hcur.alloc (.cells #[.int .i64 0, .int .i64 0, .int .i64 0, .int .i64 0, .int .i64 0] 48))).mono ?_
          rintro z9 w9 ⟨rfl, rfl⟩
          simp only []
          refine hK.out _ _ ⟨fun _ => (HQ9.out _ (hcur.alloc (.cells #[.int .i64 0, .int .i64 0, .int .i64 0, .int .i64 0, .int .i64 0] 48))), trivial⟩ (fun _ => ?_)
          clear hK K
          have hS0 := (HQ9.out _ (hcur.alloc (.cells #[.int .i64 0, .int .i64 0, .int .i64 0, .int .i64 0, .int .i64 0] 48)))
          (try simp only [Act.put, List.setIfInBounds_toArray, List.set_cons_zero, List.set_cons_succ])
          refine wpE_all (rs := [16]) (by kernel_rfl) (by simp) ?_
          refine AllE.cons rfl (fun K hK => ?_) AllE.nil
          simp only [List.getElem_toArray, List.getElem_cons_succ, List.getElem_cons_zero]
          go_simp
          go_at_call 65
          refine (HAG9.out _ (hcur.alloc (.cells #[.int .i64 0, .int .i64 0, .int .i64 0, .int .i64 0, .int .i64 0] 48))).mono ?_
          rintro z9 w9 ⟨rfl, rfl⟩
          simp only []
          refine hK.out _ _ ⟨fun _ => (HQ9.out _ (hcur.alloc (.cells #[.int .i64 0, .int .i64 0, .int .i64 0, .int .i64 0, .int .i64 0] 48))), trivial⟩ (fun _ => ?_)
          clear hK K
          have hS0 := (HQ9.out _ (hcur.alloc (.cells #[.int .i64 0, .int .i64 0, .int .i64 0, .int .i64 0, .int .i64 0] 48)))
          (try simp only [Act.put, List.setIfInBounds_toArray, List.set_cons_zero, List.set_cons_succ])
          refine wpE_takeS (i := 17) (d := some 74) (v := .agg #[.int .i64 x.ent, .int .i64 vk, .int .i64 (fr : Int), .int .i64 0, .int .i64 (gr : Int)]) rfl rfl (by kernel_rfl) (by kernel_rfl) (by kernel_rfl) (by kernel_rfl) (fun _ _ _ h => h) (by rfl) ?hya18 hS0 trivial ?goa18
          case hya18 =>
            intro w9 hT9
            clear hT9; go_simp
          (try simp only [Act.put, List.setIfInBounds_toArray, List.set_cons_zero, List.set_cons_succ])
          refine wpE_all (rs := [19]) (by kernel_rfl) (by simp) ?_
          refine AllE.cons rfl (fun K hK => ?_) AllE.nil
          simp only [List.getElem_toArray, List.getElem_cons_succ, List.getElem_cons_zero]
          go_simp
          refine hK.out _ _ ⟨fun h => absurd h (by simp), trivial⟩ (fun _ => ?_)
          clear hK K
          (try simp only [Act.put, List.setIfInBounds_toArray, List.set_cons_zero, List.set_cons_succ])
          refine wpE_done (by kernel_rfl) ?_ _
          go_wp2_with fail
          go_meet
          case rel => exact HZ2.out
      case rest =>
        obtain ⟨zx, hzx, rfl, hzb, hxx⟩ := hcut
        have HW2 := Lib.hid (hxx)
        have hw2l : w2.heap.size < wc.heap.size := Nat.lt_of_le_of_lt hzx (lt_of_block hzb)
        have HXE := Lib.hid (HXC2.out.trans hxx)
        have c2 := cell_of hzb (i := 2) (u := .int .i64 (fr : Int)) rfl
        have hfz := frozen_of hzb 3
        have hc3 := cell_of hzb (i := 3) (u := .int .i64 0) rfl
        have HZB := Lib.hid hzb
        have HZX := Lib.hid hzx
        obtain ⟨q7, hq7⟩ : ∃ q7 : Nat, p7 % 4 = q7 := ⟨_, rfl⟩
        have hq7b : q7 < 4 := by omega
        have hrem : Int.tmod (p7 : Int) 4 = (q7 : Int) := by rw [Int.tmod_eq_emod_of_nonneg (by omega)]; omega
        have hremw : IntKind.i64.wrap (q7 : Int) = (q7 : Int) := IntWalk.i64_in _ (by omega)
        have hwf1 : IntKind.i64.wrap ((fr : Int) + 1) = (fr : Int) + 1 := IntWalk.i64_in _ (by omega)
        have hwf2 : IntKind.i64.wrap ((fr : Int) + 1 + (q7 : Int)) = (fr : Int) + 1 + (q7 : Int) := IntWalk.i64_in _ (by omega)
        have HC2 := Lib.hid (fun X (hX : Ext wc X) => (show X.cell? ⟨zx, 2, none⟩ = some (.int .i64 (fr : Int)) from (hX.cells.1 _ _ (lt_of_block HZB.out)).trans c2))
        have HA79 := Lib.hid (fun X (hX : Ext wc X) => HA7.out X (HXE.out.trans hX))
        have HGB := Lib.hid hgrb
        clear hxx hzb hzx c2 hcur hq7 hMi hM hp7b hgrb
        go_upto_region 10 with (fail)
        obtain ⟨wd, hwd⟩ : ∃ wd, (wc.setCell ⟨zx, 3, none⟩ (.int .i64 ((fr : Int) + 1 + (q7 : Int)))).drew = wd := ⟨_, rfl⟩
        have hzd : wd.heap[zx]? = some (.cells #[.int .i64 x.ent, .int .i64 vk, .int .i64 (fr : Int), .int .i64 ((fr : Int) + 1 + (q7 : Int)), .int .i64 (gr : Int)] 48 (0, 0)) := by
          rw [← hwd]
          exact heap_setCell_same _ zx 3 _ 48 _ HZB.out
        have hxd : Ext w2 wd := by rw [← hwd]; exact (HW2.out.setCell (p := ⟨zx, 3, none⟩) HZX.out _).drew
        have HZD := Lib.hid hzd
        have HXD := Lib.hid hxd
        have HWD := Lib.hid hwd
        clear hzd hxd hwd
        have hS0 : (fun X : World => X.cell? ⟨zx, 2, none⟩ = some (.int .i64 (fr : Int))) wc.drew := HC2.out _ (Ext.refl _).drew
        refine wp_region_E (fun X : World => X.cell? ⟨zx, 2, none⟩ = some (.int .i64 (fr : Int))) (fun _ => True) (fun i => i == 10) (by kernel_rfl) ?_
        refine wpE_takeS (i := 0) (d := some 75) (v := .pointer (some ⟨zx, 2, none⟩)) rfl rfl (by kernel_rfl) (by kernel_rfl) (by kernel_rfl) (by kernel_rfl) (fun _ _ _ h => h) (by rfl) ?hyb1 hS0 trivial ?gob1
        case hyb1 =>
          intro w9 hT9
          clear hT9; go_simp
        (try simp only [Act.put, List.setIfInBounds_toArray, List.set_cons_zero, List.set_cons_succ])
        refine wpE_takeS (i := 1) (d := some 76) (v := .int .i64 (fr : Int)) rfl rfl (by kernel_rfl) (by kernel_rfl) (by kernel_rfl) (by kernel_rfl) (fun _ _ _ h => h) (by rfl) ?hyb2 hS0 trivial ?gob2
        case hyb2 =>
          intro w9 hT9
          have y0 : w9.cell? ⟨zx, 2, none⟩ = some (.int .i64 (fr : Int)) := hT9; go_simp
        (try simp only [Act.put, List.setIfInBounds_toArray, List.set_cons_zero, List.set_cons_succ])
        refine wpE_takeS (i := 2) (d := some 77) (v := .int .i64 ((fr : Int) + 1)) rfl rfl (by kernel_rfl) (by kernel_rfl) (by kernel_rfl) (by kernel_rfl) (fun _ _ _ h => h) (by rfl) ?hyb3 hS0 trivial ?gob3
        case hyb3 =>
          intro w9 hT9
          clear hT9; go_simp
        (try simp only [Act.put, List.setIfInBounds_toArray, List.set_cons_zero, List.set_cons_succ])
        refine wpE_takeS (i := 3) (d := some 78) (v := .slice A m c) rfl rfl (by kernel_rfl) (by kernel_rfl) (by kernel_rfl) (by kernel_rfl) (fun _ _ _ h => h) (by rfl) ?hyb4 hS0 trivial ?gob4
        case hyb4 =>
          intro w9 hT9
          clear hT9; go_simp
        (try simp only [Act.put, List.setIfInBounds_toArray, List.set_cons_zero, List.set_cons_succ])
        refine wpE_takeS (i := 4) (d := some 79) (v := .int .i64 (i : Int)) rfl rfl (by kernel_rfl) (by kernel_rfl) (by kernel_rfl) (by kernel_rfl) (fun _ _ _ h => h) (by rfl) ?hyb5 hS0 trivial ?gob5
        case hyb5 =>
          intro w9 hT9
          clear hT9; go_simp
        (try simp only [Act.put, List.setIfInBounds_toArray, List.set_cons_zero, List.set_cons_succ])
        refine wpE_takeS (i := 5) (d := some 80) (v := .int .i64 ((i : Int) + 2)) rfl rfl (by kernel_rfl) (by kernel_rfl) (by kernel_rfl) (by kernel_rfl) (fun _ _ _ h => h) (by rfl) ?hyb6 hS0 trivial ?gob6
        case hyb6 =>
          intro w9 hT9
          clear hT9; go_simp
        (try simp only [Act.put, List.setIfInBounds_toArray, List.set_cons_zero, List.set_cons_succ])
        refine wpE_all (rs := [6]) (by kernel_rfl) (by simp) ?_
        refine AllE.cons rfl (fun K hK => ?_) AllE.nil
        simp only [List.getElem_toArray, List.getElem_cons_succ, List.getElem_cons_zero]
        go_simp
        go_at_call 65
        refine (HA79.out _ (Ext.refl _).drew).mono ?_
        rintro z9 w9 ⟨rfl, rfl⟩
        simp only []
        refine hK.out _ _ ⟨fun _ => (HC2.out _ (Ext.refl _).drew), trivial⟩ (fun _ => ?_)
        clear hK K
        have hS0 := (HC2.out _ (Ext.refl _).drew)
        (try simp only [Act.put, List.setIfInBounds_toArray, List.set_cons_zero, List.set_cons_succ])
        refine wpE_takeS (i := 7) (d := some 82) (v := .int .i64 (q7 : Int)) rfl rfl (by kernel_rfl) (by kernel_rfl) (by kernel_rfl) (by kernel_rfl) (fun _ _ _ h => h) (by rfl) ?hyb7 hS0 trivial ?gob7
        case hyb7 =>
          intro w9 hT9
          clear hT9; go_simp
        (try simp only [Act.put, List.setIfInBounds_toArray, List.set_cons_zero, List.set_cons_succ])
        refine wpE_takeS (i := 8) (d := some 83) (v := .int .i64 ((fr : Int) + 1 + (q7 : Int))) rfl rfl (by kernel_rfl) (by kernel_rfl) (by kernel_rfl) (by kernel_rfl) (fun _ _ _ h => h) (by rfl) ?hyb8 hS0 trivial ?gob8
        case hyb8 =>
          intro w9 hT9
          clear hT9; go_simp
        (try simp only [Act.put, List.setIfInBounds_toArray, List.set_cons_zero, List.set_cons_succ])
        refine wpE_takeS (i := 9) (d := some 84) (v := .pointer (some ⟨zx, 3, none⟩)) rfl rfl (by kernel_rfl) (by kernel_rfl) (by kernel_rfl) (by kernel_rfl) (fun _ _ _ h => h) (by rfl) ?hyb9 hS0 trivial ?gob9
        case hyb9 =>
          intro w9 hT9
          clear hT9; go_simp
        (try simp only [Act.put, List.setIfInBounds_toArray, List.set_cons_zero, List.set_cons_succ])
        refine wpE_all (rs := [10]) (by kernel_rfl) (by simp) ?_
        refine AllE.cons rfl (fun K hK => ?_) AllE.nil
        simp only [List.getElem_toArray, List.getElem_cons_succ, List.getElem_cons_zero]
        go_simp
        refine hK.out _ _ ⟨fun h => absurd h (by simp), trivial⟩ (fun _ => ?_)
        clear hK K
        (try simp only [Act.put, List.setIfInBounds_toArray, List.set_cons_zero, List.set_cons_succ])
        refine wpE_done (by kernel_rfl) ?_ _
        rw [HWD.out]
        clear hfz hc3
        have HXRD := Lib.hid (show Ext wr wd from hxz'.out.trans (HX2.out.trans HXD.out))
        have HOD := Lib.hid (Lay.own_ext HO.out HXRD.out)
        have HXWD := Lib.hid (HXC2.out.trans HXD.out)
        have hcap : ∃ A9 c9, out = .slice A9 ls.length c9 ∧ ls.length ≤ c9 ∧ kSea.row wd (fun _ => True) A9 ls.length ls := by
          obtain ⟨A9, c9, e9, h9, hr9⟩ := Lay.own_row HOD.out
          exact ⟨A9, c9, e9, h9, Lay.row_mono hr9 fun _ _ _ => trivial⟩
        obtain ⟨A9, c9, rfl, hc9, hr9⟩ := hcap
        have HR9 := Lib.hid hr9
        clear hr9
        obtain ⟨nl, hnl⟩ : ∃ nl, ls.length = nl := ⟨_, rfl⟩
        rw [hnl] at HR9 hc9
        have HNL := Lib.hid hnl
        have hnlb : nl ≤ 8 := by have := H3.out; omega
        obtain ⟨sx, hsx⟩ : ∃ sx : Sea, sx = ⟨x.ent, vk, (fr : Int), (fr : Int) + 1 + (q7 : Int), (gr : Int)⟩ := ⟨_, rfl⟩
        have HSX := Lib.hid hsx
        have HEQ := Lib.hid (fun (y : Sea) W => (show (binOp .eql 48 (.agg #[.int .i64 y.ent, .int .i64 y.ver, .int .i64 y.fr, .int .i64 y.un, .int .i64 y.gr]) (.agg #[.int .i64 x.ent, .int .i64 vk, .int .i64 (fr : Int), .int .i64 ((fr : Int) + 1 + (q7 : Int)), .int .i64 (gr : Int)])).run Tryz.prog W = .ok (.bool (decide (y = sx))) W from by rw [hsx]; exact eql_sea y ⟨x.ent, vk, (fr : Int), (fr : Int) + 1 + (q7 : Int), (gr : Int)⟩ W))
        have HQD := Lib.hid (fun X (hX : Ext wd X) => (show X.cell? ⟨zx, 0, none⟩ = some (.int .i64 x.ent) ∧ X.cell? ⟨zx, 1, none⟩ = some (.int .i64 vk) ∧ X.cell? ⟨zx, 2, none⟩ = some (.int .i64 (fr : Int)) ∧ X.cell? ⟨zx, 3, none⟩ = some (.int .i64 ((fr : Int) + 1 + (q7 : Int))) ∧ X.cell? ⟨zx, 4, none⟩ = some (.int .i64 (gr : Int)) from
          have h9 := (hX.block _ (lt_of_block HZD.out)).trans HZD.out
          ⟨cell_of h9 (i := 0) rfl, cell_of h9 (i := 1) rfl, cell_of h9 (i := 2) rfl, cell_of h9 (i := 3) rfl, cell_of h9 (i := 4) rfl⟩))
        clear hnl hsx
        rw [HNL.out]
        go_wp2_with fail
        go_loopw [11, 12] (fun s11 s12 W => FoR wd nl s11 s12 W) (fun _ s12 _ => toM nl s12)
        case atStart => exact ⟨0, false, by omega, rfl, rfl, Ext.refl _⟩
        case round =>
          obtain ⟨j, f, hj, rfl, rfl, hxj⟩ := hrel
          have HXJ := Lib.hid hxj
          clear hxj
          by_cases hjn : j < nl
          case pos =>
            have hJ : (j : Int) < (nl : Int) := by omega
            go_upto_region 15 with (fail)
            cases f with
            | true =>
              go_quiet (fail)
              go_wp2_with fail
              go_roundw
              case rel => exact ⟨j + 1, true, by omega, rfl, by go_num, HXJ.out.drewN _⟩
              case measure => simp only [toM]; omega
            | false =>
              obtain ⟨y, hy⟩ : ∃ y, ls[j]? = some y := ⟨_, List.getElem?_eq_getElem (by have := HNL.out; omega)⟩
              obtain ⟨b8, o8, rfl, hb8, d0, d1, d2, d3, d4⟩ := sea_at (Lay.row_ext HR9.out HXJ.out) hy
              obtain ⟨u0, u1, u2, u3, u4⟩ := HQD.out _ HXJ.out
              obtain ⟨r, hr⟩ : ∃ r, decide (y = sx) = r := ⟨_, rfl⟩
              have d := fun W => HEQ.out y W
              rw [hr] at d
              clear hr hy
              go_quiet (fail)
              go_wp2_with fail
              go_roundw
              case rel => exact ⟨j + 1, r, by omega, rfl, by go_num, HXJ.out.drewN _⟩
              case measure => simp only [toM]; omega
          have hjn2 : ¬ (j : Int) < (nl : Int) := by omega
          have HXWJ := Lib.hid (HXWD.out.trans HXJ.out)
          cases f with
          | true =>
            go_wp2_with fail
            go_roundw
            case rel => exact ⟨i + 3, _, ls, by omega, by go_num, rfl, by have := H3.out; omega, HOK.out, by have h9 := Lay.own_ext HOD.out HXJ.out; rw [HNL.out] at h9; exact h9, HXWJ.out⟩
            case measure => simp only [toM]; omega
          | false =>
            obtain ⟨u0, u1, u2, u3, u4⟩ := HQD.out _ HXJ.out
            obtain ⟨A10, c10, w10, hrun, ho10, hb10, _, _, _⟩ := own_app1 (k := kSea) (Pr := Tryz.prog) (t := 28) Tryz.underlying28 info48 rfl (by decide) (by omega) (Lay.own_ext HOD.out HXJ.out) HXWJ.out.lt (cs := #[.int .i64 x.ent, .int .i64 vk, .int .i64 (fr : Int), .int .i64 ((fr : Int) + 1 + (q7 : Int)), .int .i64 (gr : Int)]) (T := 48) (x := sx) (by rw [HSX.out]; rfl) 1 (by have := HNL.out; omega)
            have HRUN := Lib.hid hrun
            rw [HNL.out] at HRUN ho10
            have HO10 := Lib.hid ho10
            have HX10 := Lib.hid (show Ext w1 w10 from Below.trans HXWJ.out (hb10 _ (Nat.le_refl _)))
            clear hrun ho10 hb10
            go_wp2_with (first | (at_builtin; refine wpList_append_run HRUN.out rfl rfl rfl rfl rfl ?_))
            go_roundw
            case rel =>
              refine ⟨i + 3, _, ls ++ [sx], by omega, by go_num, rfl, by have := H3.out; rw [List.length_append]; simp only [List.length_singleton]; omega, ?_, HO10.out, HX10.out⟩
              intro s hs
              rcases List.mem_append.1 hs with h9 | h9
              · exact HOK.out s h9
              · simp only [List.mem_singleton] at h9
                rw [h9, HSX.out]
                exact ⟨by simp only []; omega, by simp only []; have := HGB.out; omega⟩
            case measure => simp only [toM]; omega
end Go.Proofs.YtdbnddmncbjobaaGreatDoor
