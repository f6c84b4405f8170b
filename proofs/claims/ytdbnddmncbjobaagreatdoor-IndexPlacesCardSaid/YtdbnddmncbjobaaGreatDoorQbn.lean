/- index.Items: walked (printed by genyt.py). -/
import Derived.Test.YtdbnddmncbjobaaGreatDoorQbm
namespace Go.Proofs.YtdbnddmncbjobaaGreatDoor
open Go Go.RowKit Go.Maps
attribute [local go_sem] Oper.semAt_some

theorem Kpt.extX {b : Nat} {K : Nat → Prop} {hs : List (List UInt8 × Ct)} {D : DV} {W0 W Y : World} (h : Kpt b K hs D W0 W) (hx : Ext W Y) : Kpt b K hs D W0 Y := h.ext hx.os hx.tape hx.output hx.size hx.block
theorem Kpt.narrowX {b : Nat} {K K' : Nat → Prop} {hs hs' : List (List UInt8 × Ct)} {D D' : DV} {W0 W Y Z : World} (h : Kpt b K hs D W0 W) (hx : Ext W Y) (h' : Kpt b K' hs' D' Y Z) (hK : ∀ j, K j → K' j) : Kpt b K hs' D' W0 Z := h.narrow hx.os hx.tape hx.output hx.size hx.block h' hK
theorem Kpt.base {b : Nat} {K : Nat → Prop} {hs : List (List UInt8 × Ct)} {D : DV} {w W0 W : World} (h : Kpt b K hs D W0 W) (hw : Ext w W0) (hK : ∀ j, j < w.heap.size → K j) : Ext w W :=
  ⟨h.os.trans hw.os, h.tape.trans hw.tape, h.output.trans hw.output, Nat.le_trans hw.size h.size, fun j hj => (h.block j (hK j hj)).trans (hw.block j hj)⟩
theorem Kpt.cell {b : Nat} {K : Nat → Prop} {hs : List (List UInt8 × Ct)} {D : DV} {W0 W : World} (h : Kpt b K hs D W0 W) {j : Nat} (hj : K j) {o : Nat} {v : Value} (hc : W0.cell? ⟨j, o, none⟩ = some v) : W.cell? ⟨j, o, none⟩ = some v := by
  unfold World.cell? at hc ⊢
  rw [h.block j hj]
  exact hc
/-- The hits of the first i pages. -/
def hsI (br tb : Int) (ls : List Sea) (b : Bk) (i : Nat) : List (List UInt8 × Ct) := ((pagesB b).take i).flatMap (hitP br tb ls b)
theorem hsI_len {b : Bk} {N V : Nat} (h : OkB b N V) (hN : 200 * V * N ≤ 4000) (br tb : Int) (ls : List Sea) (i : Nat) : (hsI br tb ls b i).length ≤ 16000000 := by
  have h1 := flat_le (f := hitP br tb ls b) (l := (pagesB b).take i) fun p hp => hitP_len h br tb ls (List.mem_of_mem_take hp)
  have h2 := h.np
  have h3 : ((pagesB b).take i).length ≤ 4000 := by rw [List.length_take]; omega
  unfold hsI
  exact Nat.le_trans h1 (Nat.le_trans (Nat.mul_le_mul_right 4000 h3) (by omega))
theorem hsI_succ (br tb : Int) (ls : List Sea) (b : Bk) {i : Nat} {p : Pg} (h : (pagesB b)[i]? = some p) : hsI br tb ls b (i + 1) = hsI br tb ls b i ++ hitP br tb ls b p := hits_take br tb ls b h
/-- One place, in a new row. -/
theorem ct_new (X : World) (c : Ct) : kCt.row (X.alloc (.cells #[.int .i64 c.br, .int .i64 c.nu, .int .i64 c.su, .int .i64 c.li] 69)) (fun j => False ∨ X.heap.size ≤ j) (some ⟨X.heap.size, 0, none⟩) 1 [c] :=
  (own_rowQ (own_new (k := kCt) (X := X) (base := X.heap.size) (P := fun _ => False) (x := c) (cs := #[.int .i64 c.br, .int .i64 c.nu, .int .i64 c.su, .int .i64 c.li]) (e := 69) (Nat.le_refl _) (kCt_rep.2 rfl))).2
def ItA (br tb : Int) (ls : List Sea) (b : Bk) (b0 B np : Nat) (K : Nat → Prop) (w2 : World) (s23 : Value) (W : World) : Prop :=
  ∃ (i : Nat) (D : DV), i ≤ np ∧ s23 = .int .i64 i ∧ GMap B b0 (hsI br tb ls b i).length (hsI br tb ls b i) D W ∧ Kpt b0 K (hsI br tb ls b i) D w2 W
def ItB (br tb : Int) (ls : List Sea) (t : Tx) (p : Pg) (xs : List Ln) (hs : List (List UInt8 × Ct)) (b0 B : Nat) (K : Nat → Prop) (w6 : World) (s45 : Value) (W : World) : Prop :=
  ∃ (k : Nat) (D : DV), k ≤ xs.length ∧ s45 = .int .i64 k ∧ GMap B b0 (hs ++ hitL br tb ls t p xs k).length (hs ++ hitL br tb ls t p xs k) D W ∧ Kpt b0 K (hs ++ hitL br tb ls t p xs k) D w6 W
def ItN (br tb : Int) (ls : List Sea) (t : Tx) (p : Pg) (k : Nat) (fr un : Int) (hs : List (List UInt8 × Ct)) (b0 B : Nat) (K : Nat → Prop) (w7 : World) (s16 : Value) (W : World) : Prop :=
  ∃ (m : Nat) (D : DV), m ≤ (un - fr).toNat ∧ s16 = .int .i64 (fr + (m : Nat)) ∧ GMap B b0 (hs ++ hitN br tb ls t p k fr m).length (hs ++ hitN br tb ls t p k fr m) D W ∧ Kpt b0 K (hs ++ hitN br tb ls t p k fr m) D w7 W
def itM (un : Int) (s16 : Value) : Nat := match s16 with | .int _ z => (un - z).toNat | _ => 0
set_option maxHeartbeats 4000000 in
set_option maxRecDepth 100000 in
theorem iitems_any (P Q : Nat → Prop) (w : World) (b : Bk) (N V : Nat) (br tb : Int) (ls : List Sea) (A A2 : Option Addr) (Nn c n2 c2 : Nat) (hok : OkB b N V) (hN : N ≤ 1000) (hV : V ≤ 1000) (hNV : 200 * V * N ≤ 4000) (hr : kSe.row w P A Nn b.secs) (hsl : kSea.row w Q A2 n2 ls) (hn2 : n2 ≤ 1000000) (hgr : ∀ s ∈ ls, 0 ≤ s.gr ∧ s.gr ≤ 15) (hL : EnvW w) :
    Calls Tryz.prog 19 #[.agg #[.int .i64 b.ms, .int .i64 b.ht, .slice A Nn c], .int .i64 br, .int .i64 tb, .slice A2 n2 c2] w fun e w' => ∃ A1 n1 c1, e = .returned (.slice A1 n1 c1) ∧ TbH w' A1 n1 c1 (hits br tb ls b) ∧ Ext w w' := by
  have hmm := @run_makeMap Tryz.prog
  have hbi := hok.bkI hN (by omega) hV
  have HOK := Lib.hid hok
  have HBI := Lib.hid hbi
  have HLEN := Lib.hid (fun i => hsI_len hok hNV br tb ls i)
  obtain ⟨z, hz⟩ : ∃ z, w.heap.size = z := ⟨_, rfl⟩
  obtain ⟨w0, hw0⟩ : ∃ w0, w.alloc (.cells #[.int .i64 b.ms, .int .i64 b.ht, .slice A Nn c] 27) = w0 := ⟨_, rfl⟩
  have hx0 : Ext w w0 := by rw [← hw0]; exact (Ext.refl w).alloc _
  have hB0 : w0.heap[z]? = some (.cells #[.int .i64 b.ms, .int .i64 b.ht, .slice A Nn c] 27 (0, 0)) := by rw [← hw0, ← hz]; exact heap_alloc_new _ _
  have hs0 : w0.heap.size = z + 1 := by rw [← hw0, ← hz]; simp
  obtain ⟨w1, hw1⟩ : ∃ w1, w0.alloc (.map #[] 0) = w1 := ⟨_, rfl⟩
  have hx1 : Ext w0 w1 := by rw [← hw1]; exact (Ext.refl w0).alloc _
  have hg1 : GMap (z + 1 + 1) (z + 1) 0 [] (.map []) w1 := by rw [← hw1, ← hs0]; exact GMap.made w0
  have hs1 : w1.heap.size = z + 2 := by rw [← hw1]; simp [hs0]
  have hB1 := (hx1.block _ (lt_of_block hB0)).trans hB0
  have a0 := cell_of hB1 (i := 0) rfl
  have a1 := cell_of hB1 (i := 1) rfl
  have a2 := cell_of hB1 (i := 2) rfl
  have HPG := Lib.hid (pages_any P w1 b A Nn c hbi (Lay.row_ext hr (hx0.trans hx1)) (hL.ext (hx0.trans hx1)))
  have HR := Lib.hid (show kSe.row w (fun j => j < w.heap.size) A Nn b.secs from Lay.row_mono hr fun j _ hj => hj)
  have HSL := Lib.hid (show kSea.row w (fun j => j < w.heap.size) A2 n2 ls from Lay.row_mono hsl fun j _ hj => hj)
  have HX0 := Lib.hid hx0
  have HX1 := Lib.hid hx1
  have HG1 := Lib.hid hg1
  have HS1' := Lib.hid hs1
  have HB1 := Lib.hid hB1
  have HZ := Lib.hid hz
  clear hr hsl hL hx0 hB0 hx1 hg1 hs1 hB1 hbi hok
  go_enter Tryz.func19, Tryz.ntmps19
  go_wp2_with (first | (go_at_call 55; refine (HPG.out).mono ?_; rintro e w2 ⟨Ap, np, cp, rfl, hnp1, hnp2, hrp, hx2⟩; have HRP := Lib.hid hrp; have HX2 := Lib.hid hx2; clear hrp hx2))
  clear hw0 hw1 hz hs0 a0 a1 a2 HPG
  obtain ⟨B, hB⟩ : ∃ B, w2.heap.size = B := ⟨_, rfl⟩
  obtain ⟨b0, hb0⟩ : ∃ b0, z + 1 = b0 := ⟨_, rfl⟩
  rw [hb0] at HG1 ⊢
  have hBb : b0 + 1 ≤ B := by have := HX2.out.lt; have := HS1'.out; omega
  have HBB := Lib.hid (show z < b0 ∧ b0 < B ∧ w2.heap.size = B ∧ w.heap.size = z ∧ w1.heap.size = b0 + 1 ∧ z + 1 = b0 from ⟨by omega, by omega, hB, HZ.out, by have := HS1'.out; omega, hb0⟩)
  have HXW2 := Lib.hid (HX0.out.trans (HX1.out.trans HX2.out))
  obtain ⟨K1, hK1⟩ : ∃ K1 : Nat → Prop, (fun j => j < B ∧ j ≠ b0) = K1 := ⟨_, rfl⟩
  have HK1 := Lib.hid (show ∀ j, K1 j ↔ j < B ∧ j ≠ b0 from fun j => by rw [← hK1])
  have HPR := Lib.hid (show kPg.row w2 K1 Ap np (pagesB b) from Lay.row_mono HRP.out fun j hj hjl => (HK1.out j).2 (by have := HBB.out; omega))
  have HZB := Lib.hid ((HX2.out.block _ (lt_of_block HB1.out)).trans HB1.out)
  have HNP := Lib.hid (Lay.row_len HRP.out)
  have HG2 := Lib.hid (show GMap B b0 0 [] (.map []) w2 from (HG1.out.keep HX2.out.grown).raise (by have := HBB.out; omega))
  have HKP2 := Lib.hid (show Kpt b0 K1 [] (.map []) w2 w2 from Kpt.start (fun k v hc => absurd rfl hc) (fun h9 => ((HK1.out b0).1 h9).2 rfl) fun j hj => by have := ((HK1.out j).1 hj).1; omega)
  clear hBb hb0 hB hK1 HRP HB1 HG1
  go_loopw [11, 12, 13, 14, 15, 16, 17, 18, 23] (fun _ _ _ _ _ _ _ _ s23 W => ItA br tb ls b b0 B np K1 w2 s23 W) (fun _ _ _ _ _ _ _ _ s23 _ => toM np s23)
  case atStart => exact ⟨0, .map [], by omega, rfl, HG2.out, HKP2.out⟩
  case round =>
    obtain ⟨i, D, hi, rfl, hgm, hkp⟩ := hrel
    have HGM := Lib.hid hgm
    have HKP := Lib.hid hkp
    have HEX := Lib.hid (show Ext w wr from hkp.base HXW2.out fun j hj => (HK1.out j).2 (by have := HBB.out; omega))
    have HSZ := Lib.hid (show B ≤ wr.heap.size by have := hkp.size; have := HBB.out; omega)
    clear hgm hkp
    have hwi : IntKind.i64.wrap ((i : Int) + 1) = (i : Int) + 1 := IntWalk.i64_in _ (by omega)
    by_cases hlt : i < np
    case neg =>
      have hni : ¬ ((i : Int) < (np : Int)) := by omega
      have hti : hsI br tb ls b i = hits br tb ls b := by
        unfold hsI hits
        rw [List.take_of_length_le (by rw [← HNP.out]; omega)]
      have hl9 := HLEN.out i
      have hgm9 := HGM.out
      rw [hti] at hgm9 hl9
      have HIT := Lib.hid (items_any wr B b0 _ (hits br tb ls b) D hgm9 HSZ.out (by omega) (hits_key HOK.out))
      clear hgm9 hti hl9
      go_wp2_with (first | (go_at_call 57; refine (HIT.out).mono ?_; rintro e w5 ⟨A5, m5, c5, rfl, hT5, hb5⟩; have HT5 := Lib.hid hT5; have HB5 := Lib.hid hb5; clear hT5 hb5))
      go_ret
      refine ⟨A5, m5, c5, rfl, HT5.out, ?_⟩
      have h1 := HB5.out
      have h3 := HEX.out
      exact ⟨h1.os.trans h3.os, h1.tape.trans h3.tape, h1.output.trans h3.output, Nat.le_trans h3.size h1.size, fun j hj => (h1.block j (by have := HBB.out; omega)).trans (h3.block j hj)⟩
    have hI : (i : Int) < (np : Int) := by omega
    obtain ⟨p, hp⟩ : ∃ p, (pagesB b)[i]? = some p := ⟨_, List.getElem?_eq_getElem (by rw [← HNP.out]; exact hlt)⟩
    have hpm := List.mem_of_getElem? hp
    have hrw : kPg.row wr K1 Ap np (pagesB b) := Lay.row_keep HPR.out HKP.out.size fun j hj _ => HKP.out.block j hj
    obtain ⟨gb, off, cs, rfl, hgbl, _, hrep, hcs⟩ := Lay.row_at hrw hp
    obtain ⟨A7, n7, c7, A8, n8, c8, rfl, hn7, hn8, r7, r8⟩ := kPg_rep.1 hrep
    have y0 := fun o => (((Ext.refl wr).alloc o).cells.1 gb _ hgbl).trans (hcs 0 _ rfl)
    have y1 := fun o => (((Ext.refl wr).alloc o).cells.1 gb _ hgbl).trans (hcs 1 _ rfl)
    have y2 := fun o => (((Ext.refl wr).alloc o).cells.1 gb _ hgbl).trans (hcs 2 _ rfl)
    have y3 := fun o => (((Ext.refl wr).alloc o).cells.1 gb _ hgbl).trans (hcs 3 _ rfl)
    have y4 := fun o => (((Ext.refl wr).alloc o).cells.1 gb _ hgbl).trans (hcs 4 _ rfl)
    have y5 := fun o => (((Ext.refl wr).alloc o).cells.1 gb _ hgbl).trans (hcs 5 _ rfl)
    have x0 := hcs 0 _ rfl
    have x1 := hcs 1 _ rfl
    have x2 := hcs 2 _ rfl
    have x3 := hcs 3 _ rfl
    have x4 := hcs 4 _ rfl
    have x5 := hcs 5 _ rfl
    rw [kPg_sz] at x0 x1 x2 x3 x4 x5
    rw [Nat.add_zero] at x0
    simp only [kPg_sz, Nat.add_zero] at y0 y1 y2 y3 y4 y5
    obtain ⟨z11, hz11⟩ : ∃ z11, wr.heap.size = z11 := ⟨_, rfl⟩
    obtain ⟨w3, hw3⟩ : ∃ w3, wr.alloc (.cells #[.int .i64 p.num, .int .i64 p.suf, .int .i64 p.ent, .int .i64 p.ver, .slice A7 n7 c7, .slice A8 n8 c8] 84) = w3 := ⟨_, rfl⟩
    have hx3 : Ext wr w3 := by rw [← hw3]; exact (Ext.refl wr).alloc _
    have hB3 : w3.heap[z11]? = some (.cells #[.int .i64 p.num, .int .i64 p.suf, .int .i64 p.ent, .int .i64 p.ver, .slice A7 n7 c7, .slice A8 n8 c8] 84 (0, 0)) := by rw [← hw3, ← hz11]; exact heap_alloc_new _ _
    have HB3 := Lib.hid hB3
    have HX3 := Lib.hid hx3
    have hzb : w3.heap[z]? = some (.cells #[.int .i64 b.ms, .int .i64 b.ht, .slice A Nn c] 27 (0, 0)) := (hx3.block z (by have := HBB.out; have := HSZ.out; omega)).trans ((HKP.out.block z ((HK1.out z).2 (by have := HBB.out; omega))).trans HZB.out)
    have a0 := cell_of hzb (i := 0) rfl
    have a1 := cell_of hzb (i := 1) rfl
    have a2 := cell_of hzb (i := 2) rfl
    have e2 := cell_of hB3 (i := 2) rfl
    have e3 := cell_of hB3 (i := 3) rfl
    have HTX := Lib.hid (btext_any _ w3 b p.ent p.ver A Nn c (Lay.row_ext HR.out (HEX.out.trans hx3)) HBI.out.s HBI.out.vs)
    have HR7 := Lib.hid r7
    have HR8 := Lib.hid r8
    have HP := Lib.hid hp
    have HPM := Lib.hid hpm
    have HZ11 := Lib.hid hz11
    clear hrw hrep hcs r7 r8 hp hpm hx3 hB3 hzb
    cases ht : textB b p.ent p.ver with
    | none =>
      have HT := Lib.hid ht
      rw [ht] at HTX
      clear ht
      go_wp2_with (first | (go_at_call 52; refine (HTX.out).mono ?_; rintro e w4 ⟨A5, n5, c5, A6, n6, c6, rfl, hn5, hn6, r5, r6, hx4⟩; have HX4 := Lib.hid hx4; clear r5 r6 hx4; simp only [Option.isSome_none]))
      go_roundw
      case rel =>
        have hx5 := (HX3.out.trans HX4.out).alloc (.cells #[.slice A5 n5 c5, .slice A6 n6 c6] 53)
        have h0 : hsI br tb ls b (i + 1) = hsI br tb ls b i := by
          rw [hsI_succ br tb ls b HP.out]
          unfold hitP
          rw [HT.out]
          simp
        refine ⟨i + 1, D, by omega, by simp, ?_, ?_⟩
        · rw [h0]; exact HGM.out.keep hx5.grown
        · rw [h0]; exact HKP.out.extX hx5
      case measure => simp only [toM]; omega
    | some t =>
      have HT := Lib.hid ht
      rw [ht] at HTX
      clear ht
      go_upto_region 7 with (first | (go_at_call 52; refine (HTX.out).mono ?_; rintro e w4 ⟨A5, n5, c5, A6, n6, c6, rfl, hn5, hn6, r5, r6, hx4⟩; have HX4 := Lib.hid hx4; simp only [Option.getD_some] at r5 r6; have HR5 := Lib.hid r5; have HR6 := Lib.hid r6; clear r5 r6 hx4; simp only [Option.isSome_some]))
      obtain ⟨w5, hw5⟩ : ∃ w5, w4.alloc (.cells #[.slice A5 n5 c5, .slice A6 n6 c6] 53) = w5 := ⟨_, rfl⟩
      obtain ⟨z12, hz12⟩ : ∃ z12, w4.heap.size = z12 := ⟨_, rfl⟩
      have hx5 : Ext w4 w5 := by rw [← hw5]; exact (Ext.refl w4).alloc _
      have hB5 : w5.heap[z12]? = some (.cells #[.slice A5 n5 c5, .slice A6 n6 c6] 53 (0, 0)) := by rw [← hw5, ← hz12]; exact heap_alloc_new _ _
      rw [hw5, hz12]
      have hx35 := HX4.out.trans hx5
      have HX5 := Lib.hid (HX3.out.trans hx35)
      have HB5 := Lib.hid hB5
      have hB35 := (hx35.block _ (lt_of_block HB3.out)).trans HB3.out
      have HR5' := Lib.hid (Lay.row_ext HR5.out hx5)
      have HR6' := Lib.hid (Lay.row_ext HR6.out hx5)
      have HZ12 := Lib.hid (show wr.heap.size ≤ z12 ∧ z12 < w5.heap.size by rw [← hz12]; exact ⟨(HX3.out.trans HX4.out).lt, by rw [hz12]; exact lt_of_block hB5⟩)
      have HZ11' := Lib.hid (show wr.heap.size ≤ z11 ∧ z11 < w5.heap.size by rw [HZ11.out]; exact ⟨Nat.le_refl _, lt_of_block hB35⟩)
      have HB35 := Lib.hid hB35
      have e4 := cell_of hB35 (i := 4) rfl
      have e5 := cell_of hB35 (i := 5) rfl
      have hgt := HOK.out.hgt p HPM.out
      rw [List.length_append] at hgt
      have HCAT := Lib.hid (fun T => cat56 kLn kLn_sz K1 (w5.alloc (.cells #[.slice A7 n7 c7, .slice A8 n8 c8] T)) w5.heap.size A7 A8 n7 n8 c7 c8 p.body p.nts (Lay.row_ext HR7.out (HX5.out.alloc _)) (Lay.row_ext HR8.out (HX5.out.alloc _)) (by rw [Lay.row_len HR7.out]; omega) (by rw [Lay.row_len HR8.out]; omega) (by simp) (cell_of (heap_alloc_new w5 _) (i := 0) rfl) (cell_of (heap_alloc_new w5 _) (i := 1) rfl))
      clear hx5 hB5 hw5 hz12 hx35 hB35 a0 a1 a2 e2 e3 y0 y1 y2 y3 y4 y5 x0 x1 x2 x3 x4 x5 hw3 hz11
      obtain ⟨xs, hxs⟩ : ∃ xs, p.body ++ p.nts = xs := ⟨_, rfl⟩
      rw [hxs] at HCAT
      have hxl : xs.length ≤ 100 := by rw [← hxs, List.length_append]; exact hgt
      have HXS := Lib.hid hxs
      have HRNG := Lib.hid (show ∀ l ∈ xs, RngL 200 l by rw [← hxs]; exact HOK.out.rng p HPM.out)
      clear hxs hgt
      obtain ⟨L, hL⟩ : ∃ L, xs.length = L := ⟨_, rfl⟩
      rw [hL] at hxl
      have HL := Lib.hid hL
      clear hL
      go_wp2_with (first | (go_at_call 56; refine (HCAT.out _).mono ?_; rintro e w6 ⟨A9, c9, rfl, ho9, hx6⟩; have HO9 := Lib.hid ho9; have HX6 := Lib.hid (((Ext.refl w5).alloc _).trans hx6); have HSL9 := Lib.hid hx6.lt; clear ho9 hx6; rw [HL.out] at HO9 ⊢))
      obtain ⟨K2, hK2⟩ : ∃ K2 : Nat → Prop, (fun j => K1 j ∨ (wr.heap.size ≤ j ∧ j < w6.heap.size)) = K2 := ⟨_, rfl⟩
      have HK2 := Lib.hid (show ∀ j, K2 j ↔ K1 j ∨ (wr.heap.size ≤ j ∧ j < w6.heap.size) from fun j => by rw [← hK2])
      have HXR6 := Lib.hid (HX5.out.trans HX6.out)
      have HKP6 := Lib.hid (show Kpt b0 K2 (hsI br tb ls b i) D w6 w6 by rw [← hK2]; exact HKP.out.widen HGM.out HXR6.out.lt)
      have HGM6 := Lib.hid (HGM.out.keep HXR6.out.grown)
      have HLR := Lib.hid (show kLn.row w6 K2 A9 L xs from by
        obtain ⟨A10, c10, e10, _, hr10⟩ := Lay.own_row HO9.out
        have hlt9 := Lay.own_lt HO9.out
        obtain ⟨q1, q2, _⟩ := Value.slice.inj e10
        rw [← q1, ← q2] at hr10
        refine Lay.row_mono hr10 fun j hj hjl => (HK2.out j).2 ?_
        rcases hj with hj | hj
        · exact .inl hj
        · have h8 := (hlt9 j hj).1
          simp at h8
          exact .inr ⟨by have := HX5.out.lt; omega, hjl⟩)
      have HTR5 := Lib.hid (show kWs.row w6 K2 A5 n5 t.paras from Lay.row_ext (Lay.row_mono HR5'.out fun j hj hjl => (HK2.out j).2 (.inr ⟨by have := HX3.out.lt; omega, by have := HX6.out.lt; omega⟩)) HX6.out)
      have HTR6 := Lib.hid (show kWs.row w6 K2 A6 n6 t.notes from Lay.row_ext (Lay.row_mono HR6'.out fun j hj hjl => (HK2.out j).2 (.inr ⟨by have := HX3.out.lt; omega, by have := HX6.out.lt; omega⟩)) HX6.out)
      have HP6 := Lib.hid (show w6.heap[z11]? = some (.cells #[.int .i64 p.num, .int .i64 p.suf, .int .i64 p.ent, .int .i64 p.ver, .slice A7 n7 c7, .slice A8 n8 c8] 84 (0, 0)) ∧ K2 z11 from ⟨(HX6.out.block _ HZ11'.out.2).trans HB35.out, (HK2.out _).2 (.inr ⟨HZ11'.out.1, by have := HX6.out.lt; have := HZ11'.out; omega⟩)⟩)
      have HT6 := Lib.hid (show w6.heap[z12]? = some (.cells #[.slice A5 n5 c5, .slice A6 n6 c6] 53 (0, 0)) ∧ K2 z12 from ⟨(HX6.out.block _ HZ12.out.2).trans HB5.out, (HK2.out _).2 (.inr ⟨HZ12.out.1, by have := HX6.out.lt; have := HZ12.out; omega⟩)⟩)
      have HSE := Lib.hid (show ∀ X : World, w6.heap.size ≤ X.heap.size → (∀ j, K2 j → X.heap[j]? = w6.heap[j]?) → kSea.row X K2 A2 n2 ls from fun X h1 h2 => Lay.row_keep (Lay.row_mono (Lay.row_ext HSL.out (HEX.out.trans HXR6.out)) fun j hj _ => (HK2.out j).2 (.inl ((HK1.out j).2 (by have := HBB.out; omega)))) h1 fun j hj _ => h2 j hj)
      clear hK2 e4 e5 HO9 HCAT HTX HR5 HR6 HR5' HR6' HB5 HB35 HZ11' HZ12 HR7 HR8 HB3 HSL9
      have HHI := Lib.hid (show ∀ D' W, GMap B b0 (hsI br tb ls b i ++ hitL br tb ls t p xs L).length (hsI br tb ls b i ++ hitL br tb ls t p xs L) D' W → Kpt b0 K2 (hsI br tb ls b i ++ hitL br tb ls t p xs L) D' w6 W → ItA br tb ls b b0 B np K1 w2 (.int .i64 ((i : Int) + 1)) W from fun D' W g1 g2 => by
        have h0 : hsI br tb ls b (i + 1) = hsI br tb ls b i ++ hitL br tb ls t p xs L := by
          rw [hsI_succ br tb ls b HP.out]
          unfold hitP
          rw [HT.out, HXS.out]
          simp only
          rw [HL.out]
        exact ⟨i + 1, D', by omega, by simp, by rw [h0]; exact g1, by rw [h0]; exact HKP.out.narrowX HXR6.out g2 fun j hj => (HK2.out j).2 (.inl hj)⟩)
      have hhs := HLEN.out i
      generalize hsI br tb ls b i = hs at HKP HGM HKP6 HGM6 HHI hhs
      go_loopw [14, 15, 16, 17, 18, 45] (fun _ _ _ _ _ s45 W => ItB br tb ls t p xs hs b0 B K2 w6 s45 W) (fun _ _ _ _ _ s45 _ => toM L s45)
      case atStart => exact ⟨0, D, by omega, rfl, by have h9 := HGM6.out; simpa [hitL] using h9, by have h9 := HKP6.out; simpa [hitL] using h9⟩
      case round =>
        obtain ⟨k, D2, hk, rfl, hgm, hkp⟩ := hrel
        rename World => wq
        rw [HL.out] at hk
        have HGM2 := Lib.hid hgm
        have HKP2' := Lib.hid hkp
        clear hgm hkp
        have hwk : IntKind.i64.wrap ((k : Int) + 1) = (k : Int) + 1 := IntWalk.i64_in _ (by omega)
        by_cases hkl : k < L
        case neg =>
          obtain rfl : k = L := by omega
          have hnk : ¬ ((k : Int) < (k : Int)) := by omega
          have HREL := Lib.hid (HHI.out D2 wq HGM2.out HKP2'.out)
          go_wp2_with fail
          go_roundw
          case rel => exact HREL.out
          case measure => simp only [toM]; omega
        have hkI : (k : Int) < (L : Int) := by omega
        obtain ⟨l, hl⟩ : ∃ l, xs[k]? = some l := ⟨_, List.getElem?_eq_getElem (by rw [HL.out]; exact hkl)⟩
        have hrg := HRNG.out l (List.mem_of_getElem? hl)
        have hlr : kLn.row wq K2 A9 L xs := Lay.row_keep HLR.out HKP2'.out.size fun j hj _ => HKP2'.out.block j hj
        obtain ⟨gl, ol, cs, rfl, hgl, _, hrep, hcs⟩ := Lay.row_at hlr hl
        obtain ⟨A3, n3, c3, A4, n4, c4, rfl, _, _, _, _⟩ := kLn_rep.1 hrep
        have y0 := fun o => (((Ext.refl wq).alloc o).cells.1 gl _ hgl).trans (hcs 0 _ rfl)
        have y1 := fun o => (((Ext.refl wq).alloc o).cells.1 gl _ hgl).trans (hcs 1 _ rfl)
        have y2 := fun o => (((Ext.refl wq).alloc o).cells.1 gl _ hgl).trans (hcs 2 _ rfl)
        have y3 := fun o => (((Ext.refl wq).alloc o).cells.1 gl _ hgl).trans (hcs 3 _ rfl)
        have x0 := hcs 0 _ rfl
        have x1 := hcs 1 _ rfl
        have x2 := hcs 2 _ rfl
        have x3 := hcs 3 _ rfl
        rw [kLn_sz] at x0 x1 x2 x3
        rw [Nat.add_zero] at x0
        simp only [kLn_sz, Nat.add_zero] at y0 y1 y2 y3
        obtain ⟨z15, hz15⟩ : ∃ z15, wq.heap.size = z15 := ⟨_, rfl⟩
        obtain ⟨w7, hw7⟩ : ∃ w7, wq.alloc (.cells #[.int .i64 l.fr, .int .i64 l.un, .slice A3 n3 c3, .slice A4 n4 c4] 86) = w7 := ⟨_, rfl⟩
        have hx7 : Ext wq w7 := by rw [← hw7]; exact (Ext.refl wq).alloc _
        have hB7 : w7.heap[z15]? = some (.cells #[.int .i64 l.fr, .int .i64 l.un, .slice A3 n3 c3, .slice A4 n4 c4] 86 (0, 0)) := by rw [← hw7, ← hz15]; exact heap_alloc_new _ _
        have HX7 := Lib.hid hx7
        have HB7 := Lib.hid hB7
        have e0 := cell_of hB7 (i := 0) rfl
        obtain ⟨K3, hK3⟩ : ∃ K3 : Nat → Prop, (fun j => K2 j ∨ (wq.heap.size ≤ j ∧ j < w7.heap.size)) = K3 := ⟨_, rfl⟩
        have HK3 := Lib.hid (show ∀ j, K3 j ↔ K2 j ∨ (wq.heap.size ≤ j ∧ j < w7.heap.size) from fun j => by rw [← hK3])
        have HKP7 := Lib.hid (show Kpt b0 K3 (hs ++ hitL br tb ls t p xs k) D2 w7 w7 by rw [← hK3]; exact HKP2'.out.widen HGM2.out hx7.lt)
        have HGM7 := Lib.hid (HGM2.out.keep hx7.grown)
        have HKZ15 := Lib.hid ((HK3.out z15).2 (.inr ⟨by omega, lt_of_block hB7⟩))
        have HX26 := Lib.hid (show ∀ j, K2 j → w7.heap[j]? = w6.heap[j]? from fun j hj => (hx7.block j (Nat.lt_of_lt_of_le (HKP2'.out.lt j hj) HKP2'.out.size)).trans (HKP2'.out.block j hj))
        have HS67 := Lib.hid (show w6.heap.size ≤ w7.heap.size from Nat.le_trans HKP2'.out.size hx7.lt)
        have HLK := Lib.hid (show ∀ D' W, GMap B b0 ((hs ++ hitL br tb ls t p xs k) ++ hitN br tb ls t p k l.fr (l.un - l.fr).toNat).length ((hs ++ hitL br tb ls t p xs k) ++ hitN br tb ls t p k l.fr (l.un - l.fr).toNat) D' W → Kpt b0 K3 ((hs ++ hitL br tb ls t p xs k) ++ hitN br tb ls t p k l.fr (l.un - l.fr).toNat) D' w7 W → ItB br tb ls t p xs hs b0 B K2 w6 (.int .i64 ((k : Int) + 1)) W from fun D' W g1 g2 => by
          have h0 : hs ++ hitL br tb ls t p xs (k + 1) = (hs ++ hitL br tb ls t p xs k) ++ hitN br tb ls t p k l.fr (l.un - l.fr).toNat := by
            rw [hitL_succ br tb ls t p hl, ← List.append_assoc]; rfl
          exact ⟨k + 1, D', by rw [HL.out]; omega, by simp, by rw [h0]; exact g1, by rw [h0]; exact HKP2'.out.narrowX HX7.out g2 fun j hj => (HK3.out j).2 (.inl hj)⟩)
        have hhk : (hitL br tb ls t p xs k).length ≤ 4000 := Nat.le_trans (hitL_len br tb ls t p xs HRNG.out k) (by omega)
        have hhs2 : (hs ++ hitL br tb ls t p xs k).length ≤ 16004000 := by rw [List.length_append]; omega
        generalize hs ++ hitL br tb ls t p xs k = hs2 at HKP2' HGM2 HKP7 HGM7 HLK hhs2
        obtain ⟨lfr, hlfr⟩ : ∃ lfr, l.fr = lfr := ⟨_, rfl⟩
        obtain ⟨lun, hlun⟩ : ∃ lun, l.un = lun := ⟨_, rfl⟩
        unfold RngL at hrg
        rw [hlfr] at HLK hrg hB7 HB7 e0 y0 x0 hw7
        rw [hlun] at HLK hrg hB7 HB7 y1 x1 hw7
        obtain ⟨hrg1, hrg2, hrg3⟩ := hrg
        clear hl hlr hrep hcs hx7 hB7 hK3 hlfr hlun hhk
        go_upto_region 11 with (fail)
        clear y0 y1 y2 y3 x0 x1 x2 x3 e0 hw7 hz15
        go_loopw [16, 17, 18] (fun s16 _ _ W => ItN br tb ls t p k lfr lun hs2 b0 B K3 w7 s16 W) (fun s16 _ _ _ => itM lun s16)
        case atStart => exact ⟨0, D2, by omega, by simp, by have h9 := HGM7.out; simpa [hitN] using h9, by have h9 := HKP7.out; simpa [hitN] using h9⟩
        case round =>
          obtain ⟨m, D3, hm, rfl, hgm, hkp⟩ := hrel
          rename World => wv
          have HGM3 := Lib.hid hgm
          have HKP3 := Lib.hid hkp
          obtain ⟨nn, hnn⟩ : ∃ nn, lfr + (m : Int) = nn := ⟨_, rfl⟩
          rw [hnn]
          have HNN := Lib.hid hnn
          have q1 := hkp.cell HKZ15.out (cell_of HB7.out (i := 1) rfl)
          have hkt := (HK3.out z12).2 (.inl HT6.out.2)
          have hkp11 := (HK3.out z11).2 (.inl HP6.out.2)
          have q2 := hkp.cell hkt (cell_of ((HX26.out z12 HT6.out.2).trans HT6.out.1) (i := 0) rfl)
          have q3 := hkp.cell hkt (cell_of ((HX26.out z12 HT6.out.2).trans HT6.out.1) (i := 1) rfl)
          have hml : (hitN br tb ls t p k lfr m).length ≤ m := hitN_len br tb ls t p k lfr m
          have hlen3 : (hs2 ++ hitN br tb ls t p k lfr m).length ≤ 16005000 := by rw [List.length_append]; omega
          have HST := Lib.hid (show hs2 ++ hitN br tb ls t p k lfr (m + 1) = (hs2 ++ hitN br tb ls t p k lfr m) ++ hitW br tb ls t p k nn by rw [hitN_succ, ← List.append_assoc, hnn])
          clear hgm hkp hnn hml
          by_cases hnu : nn < lun
          case neg =>
            have hmE : m = (lun - lfr).toNat := by have := HNN.out; omega
            subst hmE
            have HREL := Lib.hid (HLK.out D3 wv HGM3.out HKP3.out)
            go_wp2_with fail
            go_roundw
            case rel => exact HREL.out
            case measure => simp only [toM]; omega
          have hot := textB_ok HOK.out HT.out
          obtain ⟨hw1, hw2⟩ := hot.words
          have hwn : IntKind.i64.wrap (nn + 1) = nn + 1 := IntWalk.i64_in _ (by have := HNN.out; omega)
          have HV2 := Lib.hid (show ∀ j, K2 j → wv.heap[j]? = w6.heap[j]? from fun j hj => (HKP3.out.block j ((HK3.out j).2 (.inl hj))).trans (HX26.out j hj))
          have HSV := Lib.hid (Nat.le_trans HS67.out HKP3.out.size)
          have HWD := Lib.hid (gword_any K2 wv A5 A6 n5 n6 c5 c6 t nn (Lay.row_keep HTR5.out HSV.out fun j hj _ => HV2.out j hj) (Lay.row_keep HTR6.out HSV.out fun j hj _ => HV2.out j hj) (by have := hot.np; omega) (by have := hot.nn; omega) (by omega) (by omega))
          have HMS := Lib.hid (show ∀ D' W, GMap B b0 (hs2 ++ hitN br tb ls t p k lfr (m + 1)).length (hs2 ++ hitN br tb ls t p k lfr (m + 1)) D' W → Kpt b0 K3 (hs2 ++ hitN br tb ls t p k lfr (m + 1)) D' w7 W → ItN br tb ls t p k lfr lun hs2 b0 B K3 w7 (.int .i64 (nn + 1)) W from fun D' W g1 g2 => ⟨m + 1, D', by have := HNN.out; omega, by have := HNN.out; congr 1; simp only [Int.natCast_add]; omega, g1, g2⟩)
          rw [HST.out] at HMS
          clear hw1 hw2 hot hm
          cases ho : wordT t nn with
          | none =>
            have hW0 : hitW br tb ls t p k nn = [] := by unfold hitW; rw [ho]
            rw [hW0, List.append_nil] at HMS
            rw [ho] at HWD
            clear ho hW0
            have HWN := Lib.hid (show Calls Tryz.prog 32 #[.agg #[.slice A5 n5 c5, .slice A6 n6 c6], .int .i64 nn] wv (fun e w' => e = .returned (.tuple #[.agg #[.string ⟨#[]⟩, .string ⟨#[]⟩, .int .i64 0, .int .i64 0], .bool false]) ∧ Ext wv w') from HWD.out)
            go_wp2_with (first | (go_at_call 32; refine (HWN.out).mono ?_; rintro e w8 ⟨rfl, hx8⟩; have HX8 := Lib.hid hx8; clear hx8))
            go_roundw
            case rel => exact HMS.out D3 _ (HGM3.out.keep (HX8.out.alloc _).grown) (HKP3.out.extX (HX8.out.alloc _))
            case measure => simp only [itM]; omega
          | some x =>
            rw [ho] at HWD
            have HO := Lib.hid ho
            clear ho
            have HWS := Lib.hid (show Calls Tryz.prog 32 #[.agg #[.slice A5 n5 c5, .slice A6 n6 c6], .int .i64 nn] wv (fun e w' => e = .returned (.tuple #[.agg #[.string ⟨x.s.toArray⟩, .string ⟨x.key.toArray⟩, .int .i64 x.tb, .int .i64 x.nt], .bool true]) ∧ Ext wv w') from HWD.out)
            go_upto_region 14 with (first | (go_at_call 32; refine (HWS.out).mono ?_; rintro e w8 ⟨rfl, hx8⟩; have HX8 := Lib.hid hx8; clear hx8))
            obtain ⟨w9, hw9⟩ : ∃ w9, w8.alloc (.cells #[.string ⟨x.s.toArray⟩, .string ⟨x.key.toArray⟩, .int .i64 x.tb, .int .i64 x.nt] 60) = w9 := ⟨_, rfl⟩
            obtain ⟨z17, hz17⟩ : ∃ z17, w8.heap.size = z17 := ⟨_, rfl⟩
            have hx9 : Ext w8 w9 := by rw [← hw9]; exact (Ext.refl w8).alloc _
            have hB9 : w9.heap[z17]? = some (.cells #[.string ⟨x.s.toArray⟩, .string ⟨x.key.toArray⟩, .int .i64 x.tb, .int .i64 x.nt] 60 (0, 0)) := by rw [← hw9, ← hz17]; exact heap_alloc_new _ _
            rw [hw9, hz17]
            have HX9 := Lib.hid (HX8.out.trans hx9)
            have HB9 := Lib.hid hB9
            have HZ17 := Lib.hid (show wv.heap.size ≤ z17 by rw [← hz17]; exact HX8.out.lt)
            have g1 := cell_of hB9 (i := 1) rfl
            have g2 := cell_of hB9 (i := 2) rfl
            clear hx9 hB9 hw9 hz17 q1 q2 q3
            have HNO := Lib.hid (show hitW br tb ls t p k nn = [] → ∀ Y, Ext w9 Y → ItN br tb ls t p k lfr lun hs2 b0 B K3 w7 (.int .i64 (nn + 1)) Y from fun h0 Y hY => by
              have h9 := HMS.out
              rw [h0, List.append_nil] at h9
              exact h9 D3 Y (HGM3.out.keep (HX9.out.trans hY).grown) (HKP3.out.extX (HX9.out.trans hY)))
            have hWD : hitW br tb ls t p k nn = if x.key ≠ [] ∧ x.tb = tb ∧ seald ls p.ent p.ver nn = false then [(x.key, ⟨br, p.num, p.suf, (k : Int) + 1⟩)] else [] := by unfold hitW; rw [HO.out]
            by_cases hk0 : x.key = []
            · have h0 : hitW br tb ls t p k nn = [] := by rw [hWD, if_neg (by simp [hk0])]
              have HREL := Lib.hid (HNO.out h0 w9 (Ext.refl _))
              rw [hk0] at g1
              clear h0 hWD hk0
              go_wp2_with fail
              go_roundw
              case rel => exact HREL.out
              case measure => simp only [itM]; omega
            · have hkb : (x.key == []) = false := by simpa using hk0
              by_cases ht0 : x.tb = tb
              case neg =>
                have h0 : hitW br tb ls t p k nn = [] := by rw [hWD, if_neg (by simp [ht0])]
                have HREL := Lib.hid (HNO.out h0 w9 (Ext.refl _))
                have htb : (x.tb == tb) = false := by simpa using ht0
                clear h0 hWD hk0 ht0
                go_wp2_with fail
                go_roundw
                case rel => exact HREL.out
                case measure => simp only [itM]; omega
              have htb : (x.tb == tb) = true := by simpa using ht0
              have hP9 : w9.heap[z11]? = some (.cells #[.int .i64 p.num, .int .i64 p.suf, .int .i64 p.ent, .int .i64 p.ver, .slice A7 n7 c7, .slice A8 n8 c8] 84 (0, 0)) := (HX9.out.block _ (Nat.lt_of_lt_of_le (HKP3.out.lt z11 hkp11) HKP3.out.size)).trans ((HV2.out z11 HP6.out.2).trans HP6.out.1)
              have HP9 := Lib.hid hP9
              have g3 := cell_of hP9 (i := 2) rfl
              have g4 := cell_of hP9 (i := 3) rfl
              have HGR := Lib.hid (groups_any K2 w9 A2 n2 c2 ls p.ent p.ver nn (HSE.out w9 (Nat.le_trans HSV.out HX9.out.lt) fun j hj => (HX9.out.block j (by have := HKP3.out.lt j ((HK3.out j).2 (.inl hj)); have := HKP3.out.size; omega)).trans (HV2.out j hj)) hn2 hgr)
              have HHK := Lib.hid hkp11
              clear hP9
              cases hsl9 : seald ls p.ent p.ver nn with
              | true =>
                have h0 : hitW br tb ls t p k nn = [] := by rw [hWD, if_neg (by simp [hsl9])]
                have HNR := Lib.hid (HNO.out h0)
                rw [hsl9] at HGR
                clear h0 hWD hk0 ht0 hsl9
                go_wp2_with (first | (go_at_call 34; refine (HGR.out).mono ?_; rintro e w10 ⟨g, rfl, hg, hx10⟩; have HX10 := Lib.hid hx10; have hg0 : (g == 0) = false := beq_eq_false_iff_ne.2 (fun e9 => absurd (hg.1 e9) (by decide)); clear hg hx10))
                go_roundw
                case rel => exact HNR.out _ HX10.out
                case measure => simp only [itM]; omega
              | false =>
                have hW1 : hitW br tb ls t p k nn = [(x.key, ⟨br, p.num, p.suf, (k : Int) + 1⟩)] := by rw [hWD, if_pos ⟨hk0, ht0, hsl9⟩]
                rw [hW1] at HMS
                rw [hsl9] at HGR
                have hxk : x.key.length ≤ 1000 := hitW_key (textB_ok HOK.out HT.out) (x.key, ⟨br, p.num, p.suf, (k : Int) + 1⟩) (by rw [hW1]; exact .head _)
                obtain ⟨v, hlook, hvK, hvW, hpush⟩ := GMap.push2 HGM3.out (Nat.le_trans (by have := HBB.out; have := HXR6.out.lt; have := HSZ.out; omega) HSV.out) (k := x.key) (by unfold maxLen; omega) (by omega) (by omega)
                have HLOOK := Lib.hid hlook
                have HVK := Lib.hid hvK
                have HVW := Lib.hid hvW
                have HPUSH := Lib.hid hpush
                clear hlook hvK hvW hpush hW1 hWD hk0 ht0 hsl9 hxk
                go_upto_region 15 with (first | (go_at_call 34; refine (HGR.out).mono ?_; rintro e w10 ⟨g, rfl, hg, hx10⟩; have HX10 := Lib.hid hx10; obtain rfl : g = 0 := hg.2 rfl; clear hg hx10))
                have hX0 : Ext wv (w10.drew.alloc (.cells #[.int .i64 br, .int .i64 p.num, .int .i64 p.suf, .int .i64 ((k : Int) + 1)] 69)) := (HX9.out.trans HX10.out).drew.alloc _
                obtain ⟨A6', m6, c6', X1, hrun, hmap1, hk1, D', X2, hrun2, hp2⟩ := HPUSH.out _ hX0.grown _ (some ⟨w10.drew.heap.size, 0, none⟩) 1 1 [⟨br, p.num, p.suf, (k : Int) + 1⟩] (ct_new w10.drew ⟨br, p.num, p.suf, (k : Int) + 1⟩) (by simp) (by simp)
                have HREL := Lib.hid (HMS.out D' X2 (by have h9 := hp2.gm; simpa [Nat.add_assoc] using h9) ((HKP3.out.extX hX0).push HVK.out hp2))
                obtain ⟨X0, hX0e⟩ : ∃ X0, w10.drew.alloc (.cells #[.int .i64 br, .int .i64 p.num, .int .i64 p.suf, .int .i64 ((k : Int) + 1)] 69) = X0 := ⟨_, rfl⟩
                have hB10 := (HX10.out.block _ (lt_of_block HB9.out)).trans HB9.out
                have hP10 := (HX10.out.block _ (lt_of_block HP9.out)).trans HP9.out
                have hx1010 : Ext w10 X0 := by rw [← hX0e]; exact (Ext.refl w10).drew.alloc _
                have hB0 := (hx1010.block _ (lt_of_block hB10)).trans hB10
                have hP0 := (hx1010.block _ (lt_of_block hP10)).trans hP10
                rw [hX0e] at hX0 hrun hk1
                have RUN := Lib.hid (show (Builtin.append_ #[38, 38] 38 #[v, .slice (some ⟨w10.heap.size, 0, none⟩) 1 1]).run Tryz.prog X0 = .ok (.slice A6' m6 c6') X1 from hrun)
                have RUN2 := Lib.hid hrun2
                have HS := Lib.hid (show w10.drew.cell? ⟨z17, 1, none⟩ = some (.string ⟨x.key.toArray⟩) ∧ w10.drew.cell? ⟨z11, 0, none⟩ = some (.int .i64 p.num) ∧ w10.drew.cell? ⟨z11, 1, none⟩ = some (.int .i64 p.suf) ∧ (Instr.lookup 105 (.map (some b0)) (.string ⟨x.key.toArray⟩) false).run Tryz.prog w10.drew = .ok v w10.drew from ⟨cell_of (W := w10.drew) hB10 (i := 1) rfl, cell_of (W := w10.drew) hP10 (i := 0) rfl, cell_of (W := w10.drew) hP10 (i := 1) rfl, HLOOK.out _ (HGM3.out.own.kept (HX9.out.trans HX10.out).drew.grown (by simp))⟩)
                have HS0 := Lib.hid (show X0.cell? ⟨z17, 1, none⟩ = some (.string ⟨x.key.toArray⟩) ∧ X0.cell? ⟨z11, 0, none⟩ = some (.int .i64 p.num) ∧ X0.cell? ⟨z11, 1, none⟩ = some (.int .i64 p.suf) ∧ (Instr.lookup 105 (.map (some b0)) (.string ⟨x.key.toArray⟩) false).run Tryz.prog X0 = .ok v X0 from ⟨cell_of hB0 (i := 1) rfl, cell_of hP0 (i := 0) rfl, cell_of hP0 (i := 1) rfl, HLOOK.out _ (HGM3.out.own.kept hX0.grown (by simp))⟩)
                have hB1 : X1.heap[z17]? = _ := (hk1 z17 (lt_of_block hB0) fun e9 => by have := HVW.out z17 e9; have := HZ17.out; omega).trans hB0
                have hP1 : X1.heap[z11]? = _ := (hk1 z11 (lt_of_block hP0) fun e9 => HVK.out K3 HKP3.out.av z11 e9 HHK.out).trans hP0
                have HS1 := Lib.hid (show X1.cell? ⟨z17, 1, none⟩ = some (.string ⟨x.key.toArray⟩) ∧ X1.cell? ⟨z11, 0, none⟩ = some (.int .i64 p.num) ∧ X1.cell? ⟨z11, 1, none⟩ = some (.int .i64 p.suf) ∧ (Instr.lookup 105 (.map (some b0)) (.string ⟨x.key.toArray⟩) false).run Tryz.prog X1 = .ok v X1 from ⟨cell_of hB1 (i := 1) rfl, cell_of hP1 (i := 0) rfl, cell_of hP1 (i := 1) rfl, HLOOK.out _ hmap1⟩)
                clear hX0 hrun hmap1 hk1 hrun2 hp2 hB10 hP10 hx1010 hB0 hP0 hB1 hP1 g1 g2 g3 g4
                have hS0 : (fun X : World => X.cell? ⟨z17, 1, none⟩ = some (.string ⟨x.key.toArray⟩) ∧ X.cell? ⟨z11, 0, none⟩ = some (.int .i64 p.num) ∧ X.cell? ⟨z11, 1, none⟩ = some (.int .i64 p.suf) ∧ (Instr.lookup 105 (.map (some b0)) (.string ⟨x.key.toArray⟩) false).run Tryz.prog X = .ok v X) w10.drew := HS.out
                refine wp_region_E (fun X : World => X.cell? ⟨z17, 1, none⟩ = some (.string ⟨x.key.toArray⟩) ∧ X.cell? ⟨z11, 0, none⟩ = some (.int .i64 p.num) ∧ X.cell? ⟨z11, 1, none⟩ = some (.int .i64 p.suf) ∧ (Instr.lookup 105 (.map (some b0)) (.string ⟨x.key.toArray⟩) false).run Tryz.prog X = .ok v X) (fun _ => True) (fun i => i == 15) (by kernel_rfl) ?_
                refine wpE_takeS (i := 0) (d := some 86) (v := .map (some b0)) rfl rfl (by kernel_rfl) (by kernel_rfl) (by kernel_rfl) (by kernel_rfl) (fun _ _ _ h => h) (by rfl) ?hy1 hS0 trivial ?go1
                case hy1 =>
                  intro w9 hT9
                  clear hT9; go_simp
                (try simp only [Act.put, List.setIfInBounds_toArray, List.set_cons_zero, List.set_cons_succ])
                refine wpE_takeS (i := 1) (d := some 87) (v := .pointer (some ⟨z17, 1, none⟩)) rfl rfl (by kernel_rfl) (by kernel_rfl) (by kernel_rfl) (by kernel_rfl) (fun _ _ _ h => h) (by rfl) ?hy2 hS0 trivial ?go2
                case hy2 =>
                  intro w9 hT9
                  clear hT9; go_simp
                (try simp only [Act.put, List.setIfInBounds_toArray, List.set_cons_zero, List.set_cons_succ])
                refine wpE_takeS (i := 2) (d := some 88) (v := .string ⟨x.key.toArray⟩) rfl rfl (by kernel_rfl) (by kernel_rfl) (by kernel_rfl) (by kernel_rfl) (fun _ _ _ h => h) (by rfl) ?hy3 hS0 trivial ?go3
                case hy3 =>
                  intro w9 hT9
                  obtain ⟨s0, s1, s2, s3⟩ := hT9; go_simp
                (try simp only [Act.put, List.setIfInBounds_toArray, List.set_cons_zero, List.set_cons_succ])
                refine wpE_takeS (i := 3) (d := some 89) (v := .map (some b0)) rfl rfl (by kernel_rfl) (by kernel_rfl) (by kernel_rfl) (by kernel_rfl) (fun _ _ _ h => h) (by rfl) ?hy4 hS0 trivial ?go4
                case hy4 =>
                  intro w9 hT9
                  clear hT9; go_simp
                (try simp only [Act.put, List.setIfInBounds_toArray, List.set_cons_zero, List.set_cons_succ])
                refine wpE_takeS (i := 4) (d := some 90) (v := .pointer (some ⟨z17, 1, none⟩)) rfl rfl (by kernel_rfl) (by kernel_rfl) (by kernel_rfl) (by kernel_rfl) (fun _ _ _ h => h) (by rfl) ?hy5 hS0 trivial ?go5
                case hy5 =>
                  intro w9 hT9
                  clear hT9; go_simp
                (try simp only [Act.put, List.setIfInBounds_toArray, List.set_cons_zero, List.set_cons_succ])
                refine wpE_takeS (i := 5) (d := some 91) (v := .string ⟨x.key.toArray⟩) rfl rfl (by kernel_rfl) (by kernel_rfl) (by kernel_rfl) (by kernel_rfl) (fun _ _ _ h => h) (by rfl) ?hy6 hS0 trivial ?go6
                case hy6 =>
                  intro w9 hT9
                  obtain ⟨s0, s1, s2, s3⟩ := hT9; go_simp
                (try simp only [Act.put, List.setIfInBounds_toArray, List.set_cons_zero, List.set_cons_succ])
                refine wpE_takeS (i := 6) (d := some 92) (v := v) rfl rfl (by kernel_rfl) (by kernel_rfl) (by kernel_rfl) (by kernel_rfl) (fun _ _ _ h => h) (by rfl) ?hy7 hS0 trivial ?go7
                case hy7 =>
                  intro w9 hT9
                  obtain ⟨s0, s1, s2, s3⟩ := hT9; go_simp
                (try simp only [Act.put, List.setIfInBounds_toArray, List.set_cons_zero, List.set_cons_succ])
                refine wpE_takeS (i := 7) (d := some 93) (v := .int .i64 br) rfl rfl (by kernel_rfl) (by kernel_rfl) (by kernel_rfl) (by kernel_rfl) (fun _ _ _ h => h) (by rfl) ?hy8 hS0 trivial ?go8
                case hy8 =>
                  intro w9 hT9
                  clear hT9; go_simp
                (try simp only [Act.put, List.setIfInBounds_toArray, List.set_cons_zero, List.set_cons_succ])
                refine wpE_takeS (i := 8) (d := some 94) (v := .pointer (some ⟨z11, 0, none⟩)) rfl rfl (by kernel_rfl) (by kernel_rfl) (by kernel_rfl) (by kernel_rfl) (fun _ _ _ h => h) (by rfl) ?hy9 hS0 trivial ?go9
                case hy9 =>
                  intro w9 hT9
                  clear hT9; go_simp
                (try simp only [Act.put, List.setIfInBounds_toArray, List.set_cons_zero, List.set_cons_succ])
                refine wpE_takeS (i := 9) (d := some 95) (v := .agg #[.int .i64 p.num, .int .i64 p.suf]) rfl rfl (by kernel_rfl) (by kernel_rfl) (by kernel_rfl) (by kernel_rfl) (fun _ _ _ h => h) (by rfl) ?hy10 hS0 trivial ?go10
                case hy10 =>
                  intro w9 hT9
                  obtain ⟨s0, s1, s2, s3⟩ := hT9; go_simp
                (try simp only [Act.put, List.setIfInBounds_toArray, List.set_cons_zero, List.set_cons_succ])
                refine wpE_takeS (i := 10) (d := some 96) (v := .int .i64 (k : Int)) rfl rfl (by kernel_rfl) (by kernel_rfl) (by kernel_rfl) (by kernel_rfl) (fun _ _ _ h => h) (by rfl) ?hy11 hS0 trivial ?go11
                case hy11 =>
                  intro w9 hT9
                  clear hT9; go_simp
                (try simp only [Act.put, List.setIfInBounds_toArray, List.set_cons_zero, List.set_cons_succ])
                refine wpE_takeS (i := 11) (d := some 97) (v := .int .i64 ((k : Int) + 1)) rfl rfl (by kernel_rfl) (by kernel_rfl) (by kernel_rfl) (by kernel_rfl) (fun _ _ _ h => h) (by rfl) ?hy12 hS0 trivial ?go12
                case hy12 =>
                  intro w9 hT9
                  clear hT9; go_simp
                (try simp only [Act.put, List.setIfInBounds_toArray, List.set_cons_zero, List.set_cons_succ])
                refine wpE_takeS (i := 12) (d := some 98) (v := .agg #[.int .i64 br, .int .i64 p.num, .int .i64 p.suf, .int .i64 ((k : Int) + 1)]) rfl rfl (by kernel_rfl) (by kernel_rfl) (by kernel_rfl) (by kernel_rfl) (fun _ _ _ h => h) (by rfl) ?hy13 hS0 trivial ?go13
                case hy13 =>
                  intro w9 hT9
                  clear hT9; go_simp
                (try simp only [Act.put, List.setIfInBounds_toArray, List.set_cons_zero, List.set_cons_succ])
                refine wpE_all (rs := [13]) (by kernel_rfl) (by simp) ?_
                refine AllE.cons rfl (fun K hK => ?_) AllE.nil
                simp only [List.getElem_toArray, List.getElem_cons_succ, List.getElem_cons_zero]
                go_simp
                refine hK.out _ _ ⟨fun _ => HS0.out, trivial⟩ (fun _ => ?_)
                clear hK K
                have hS0 := HS0.out
                (try simp only [Act.put, List.setIfInBounds_toArray, List.set_cons_zero, List.set_cons_succ])
                refine wpE_all (rs := [14]) (by kernel_rfl) (by simp) ?_
                refine AllE.cons rfl (fun K hK => ?_) AllE.nil
                simp only [List.getElem_toArray, List.getElem_cons_succ, List.getElem_cons_zero]
                refine step_append_tm (s := .tmp 92) (x := .tmp 99) RUN.out rfl rfl rfl rfl rfl ?_
                refine hK.out _ _ ⟨fun _ => HS1.out, trivial⟩ (fun _ => ?_)
                clear hK K
                have hS0 := HS1.out
                (try simp only [Act.put, List.setIfInBounds_toArray, List.set_cons_zero, List.set_cons_succ])
                refine wpE_all (rs := [15]) (by kernel_rfl) (by simp) ?_
                refine AllE.cons rfl (fun K hK => ?_) AllE.nil
                simp only [List.getElem_toArray, List.getElem_cons_succ, List.getElem_cons_zero]
                refine step_mapU (m := .tmp 86) (k := .tmp 88) (x := .tmp 100) RUN2.out rfl rfl rfl rfl rfl ?_
                refine hK.out _ _ ⟨fun h => absurd h (by simp), trivial⟩ (fun _ => ?_)
                clear hK K
                (try simp only [Act.put])
                refine wpE_done (by kernel_rfl) ?_ _
                go_wp2_with fail
                go_roundw
                case rel => exact HREL.out
                case measure => simp only [itM]; omega
end Go.Proofs.YtdbnddmncbjobaaGreatDoor
