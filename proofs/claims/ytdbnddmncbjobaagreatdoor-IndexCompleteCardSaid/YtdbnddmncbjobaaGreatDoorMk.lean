/- index.Items: walked (printed by genyt.py). -/
import Derived.Test.YtdbnddmncbjobaaGreatDoorMj
import Derived.Test.YtdbnddmncbjobaaGreatDoorMi
import Derived.Test.YtdbnddmncbjobaaGreatDoorMg
import Derived.Test.YtdbnddmncbjobaaGreatDoorMh
import Derived.Test.YtdbnddmncbjobaaGreatDoorMf
namespace Go.Proofs.YtdbnddmncbjobaaGreatDoor
open Go Go.RowKit Go.Maps
attribute [local go_sem] Oper.semAt_some

theorem Kpt.extX {b : Nat} {K : Nat → Prop} {hs : List (List UInt8 × Ct)} {D : DV} {W0 W Y : World} (h : Kpt b K hs D W0 W) (hx : Ext W Y) : Kpt b K hs D W0 Y := h.ext hx.os hx.tape hx.output hx.size hx.block
theorem Kpt.narrowX {b : Nat} {K K' : Nat → Prop} {hs hs' : List (List UInt8 × Ct)} {D D' : DV} {W0 W Y Z : World} (h : Kpt b K hs D W0 W) (hx : Ext W Y) (h' : Kpt b K' hs' D' Y Z) (hK : ∀ j, K j → K' j) : Kpt b K hs' D' W0 Z := h.narrow hx.os hx.tape hx.output hx.size hx.block h' hK
theorem Kpt.base {b : Nat} {K : Nat → Prop} {hs : List (List UInt8 × Ct)} {D : DV} {w W0 W : World} (h : Kpt b K hs D W0 W) (hw : Ext w W0) (hK : ∀ j, j < w.heap.size → K j) : Ext w W :=
  ⟨h.os.trans hw.os, h.tape.trans hw.tape, h.output.trans hw.output, Nat.le_trans hw.size h.size, fun j hj => (h.block j (hK j hj)).trans (hw.block j hj)⟩
theorem Kpt.cell {b : Nat} {K : Nat → Prop} {hs : List (List UInt8 × Ct)} {D : DV} {W0 W : World} (h : Kpt b K hs D W0 W) {j : Nat} (hj : K j) {o : Nat} {v : Value} (hc : W0.cell? ⟨j, o, none⟩ = some v) : W.cell? ⟨j, o, none⟩ = some v := by
  unfold World.cell? at hc ⊢
  rw [h.block j hj]
  exact hc
/-- The hits of the first i pages. -/
def hsI (br tb : Int) (ls : List Sea) (b : Bk) (i : Nat) : List (List UInt8 × Ct) := ((pagesB b).take i).flatMap (hitP br tb ls b)
theorem hsI_len {b : Bk} {N V : Nat} (h : OkB b N V) (hN : 200 * V * N ≤ 4000) (br tb : Int) (ls : List Sea) (i : Nat) : (hsI br tb ls b i).length ≤ 16000000 := by
  have h1 := flat_le (f := hitP br tb ls b) (l := (pagesB b).take i) fun p hp => hitP_len h br tb ls (List.mem_of_mem_take hp)
  have h2 := h.np
  have h3 : ((pagesB b).take i).length ≤ 4000 := by rw [List.length_take]; omega
  unfold hsI
  exact Nat.le_trans h1 (Nat.le_trans (Nat.mul_le_mul_right 4000 h3) (by omega))
theorem hsI_succ (br tb : Int) (ls : List Sea) (b : Bk) {i : Nat} {p : Pg} (h : (pagesB b)[i]? = some p) : hsI br tb ls b (i + 1) = hsI br tb ls b i ++ hitP br tb ls b p := hits_take br tb ls b h
/-- One place, in a new row. -/
theorem ct_new (X : World) (c : Ct) : kCt.row (X.alloc (.cells #[.int .i64 c.br, .int .i64 c.nu, .int .i64 c.su, .int .i64 c.li] 69)) (fun j => False ∨ X.heap.size ≤ j) (some ⟨X.heap.size, 0, none⟩) 1 [c] :=
  (own_rowQ (own_new (k := kCt) (X := X) (base := X.heap.size) (P := fun _ => False) (x := c) (cs := #[.int .i64 c.br, .int .i64 c.nu, .int .i64 c.su, .int .i64 c.li]) (e := 69) (Nat.le_refl _) (kCt_rep.2 rfl))).2
def ItA (br tb : Int) (ls : List Sea) (b : Bk) (b0 B np : Nat) (K : Nat → Prop) (w2 : World) (s23 : Value) (W : World) : Prop :=
  ∃ (i : Nat) (D : DV), i ≤ np ∧ s23 = .int .i64 i ∧ GMap B b0 (hsI br tb ls b i).length (hsI br tb ls b i) D W ∧ Kpt b0 K (hsI br tb ls b i) D w2 W
def ItB (br tb : Int) (ls : List Sea) (t : Tx) (p : Pg) (xs : List Ln) (hs : List (List UInt8 × Ct)) (b0 B : Nat) (K : Nat → Prop) (w6 : World) (s45 : Value) (W : World) : Prop :=
  ∃ (k : Nat) (D : DV), k ≤ xs.length ∧ s45 = .int .i64 k ∧ GMap B b0 (hs ++ hitL br tb ls t p xs k).length (hs ++ hitL br tb ls t p xs k) D W ∧ Kpt b0 K (hs ++ hitL br tb ls t p xs k) D w6 W
def ItN (br tb : Int) (ls : List Sea) (t : Tx) (p : Pg) (k : Nat) (fr un : Int) (hs : List (List UInt8 × Ct)) (b0 B : Nat) (K : Nat → Prop) (w7 : World) (s16 : Value) (W : World) : Prop :=
  ∃ (m : Nat) (D : DV), m ≤ (un - fr).toNat ∧ s16 = .int .i64 (fr + (m : Nat)) ∧ GMap B b0 (hs ++ hitN br tb ls t p k fr m).length (hs ++ hitN br tb ls t p k fr m) D W ∧ Kpt b0 K (hs ++ hitN br tb ls t p k fr m) D w7 W
def itM (un : Int) (s16 : Value) : Nat := match s16 with | .int _ z => (un - z).toNat | _ => 0
set_option maxHeartbeats 4000000 in
set_option maxRecDepth 100000 in
theorem iitems_any (P Q : Nat → Prop) (w : World) (b : Bk) (N V : Nat) (br tb : Int) (ls : List Sea) (A A2 : Option Addr) (Nn c n2 c2 : Nat) (hok : OkB b N V) (hN : N ≤ 1000) (hV : V ≤ 1000) (hNV : 200 * V * N ≤ 4000) (hr : kSe.row w P A Nn b.secs) (hsl : kSea.row w Q A2 n2 ls) (hn2 : n2 ≤ 1000000) (hgr : ∀ s ∈ ls, 0 ≤ s.gr ∧ s.gr ≤ 15) (hL : EnvW w) :
    Calls Tryz.prog 19 #[.agg #[.int .i64 b.ms, .int .i64 b.ht, .slice A Nn c], .int .i64 br, .int .i64 tb, .slice A2 n2 c2] w fun e w' => ∃ A1 n1 c1, e = .returned (.slice A1 n1 c1) ∧ TbH w' A1 n1 c1 (hits br tb ls b) ∧ Ext w w' := by
  have hmm := @run_makeMap Tryz.prog
  have hbi := hok.bkI hN (by omega) hV
  have HOK := Lib.hid hok
  have HBI := Lib.hid hbi
  have HLEN := Lib.hid (fun i => hsI_len hok hNV br tb ls i)
  obtain ⟨z, hz⟩ : ∃ z, w.heap.size = z := ⟨_, rfl⟩
  obtain ⟨w0, hw0⟩ : ∃ w0, w.alloc (.cells #[.int .i64 b.ms, .int .i64 b.ht, .slice A Nn c] 27) = w0 := ⟨_, rfl⟩
  have hx0 : Ext w w0 := by rw [← hw0]; exact (Ext.refl w).alloc _
  have hB0 : w0.heap[z]? = some (.cells #[.int .i64 b.ms, .int .i64 b.ht, .slice A Nn c] 27 (0, 0)) := by rw [← hw0, ← hz]; exact heap_alloc_new _ _
  have hs0 : w0.heap.size = z + 1 := by rw [← hw0, ← hz]; simp
  obtain ⟨w1, hw1⟩ : ∃ w1, w0.alloc (.map #[] 0) = w1 := ⟨_, rfl⟩
  have hx1 : Ext w0 w1 := by rw [← hw1]; exact (Ext.refl w0).alloc _
  have hg1 : GMap (z + 1 + 1) (z + 1) 0 [] (.map []) w1 := by rw [← hw1, ← hs0]; exact GMap.made w0
  have hs1 : w1.heap.size = z + 2 := by rw [← hw1]; simp [hs0]
  have hB1 := (hx1.block _ (lt_of_block hB0)).trans hB0
  have a0 := cell_of hB1 (i := 0) rfl
  have a1 := cell_of hB1 (i := 1) rfl
  have a2 := cell_of hB1 (i := 2) rfl
  have HPG := Lib.hid (pages_any P w1 b A Nn c hbi (Lay.row_ext hr (hx0.trans hx1)) (hL.ext (hx0.trans hx1)))
  have HR := Lib.hid (show kSe.row w (fun j => j < w.heap.size) A Nn b.secs from Lay.row_mono hr fun j _ hj => hj)
  have HSL := Lib.hid (show kSea.row w (fun j => j < w.heap.size) A2 n2 ls from Lay.row_mono hsl fun j _ hj => hj)
  have HX0 := Lib.hid hx0
  have HX1 := Lib.hid hx1
  have HG1 := Lib.hid hg1
  have HS1' := Lib.hid hs1
  have HB1 := Lib.hid hB1
  have HZ := Lib.hid hz
  clear hr hsl hL hx0 hB0 hx1 hg1 hs1 hB1 hbi hok
  go_enter Tryz.func19, Tryz.ntmps19
  go_wp2_with (first | (go_at_call 55; refine (HPG.out).mono ?_; rintro e w2 ⟨Ap, np, cp, rfl, hnp1, hnp2, hrp, hx2⟩; have HRP := Lib.hid hrp; have HX2 := Lib.hid hx2; clear hrp hx2))
  clear hw0 hw1 hz hs0 a0 a1 a2 HPG
  obtain ⟨B, hB⟩ : ∃ B, w2.heap.size = B := ⟨_, rfl⟩
  obtain ⟨b0, hb0⟩ : ∃ b0, z + 1 = b0 := ⟨_, rfl⟩
  rw [hb0] at HG1 ⊢
  have hBb : b0 + 1 ≤ B := by have := HX2.out.lt; have := HS1'.out; omega
  have HBB := Lib.hid (show z < b0 ∧ b0 < B ∧ w2.heap.size = B ∧ w.heap.size = z ∧ w1.heap.size = b0 + 1 ∧ z + 1 = b0 from ⟨by omega, by omega, hB, HZ.out, by have := HS1'.out; omega, hb0⟩)
  have HXW2 := Lib.hid (HX0.out.trans (HX1.out.trans HX2.out))
  obtain ⟨K1, hK1⟩ : ∃ K1 : Nat → Prop, (fun j => j < B ∧ j ≠ b0) = K1 := ⟨_, rfl⟩
  have HK1 := Lib.hid (show ∀ j, K1 j ↔ j < B ∧ j ≠ b0 from fun j => by rw [← hK1])
  have HPR := Lib.hid (show kPg.row w2 K1 Ap np (pagesB b) from Lay.row_mono HRP.out fun j hj hjl => (HK1.out j).2 (by have := HBB.out; omega))
  have HZB := Lib.hid ((HX2.out.block _ (lt_of_block HB1.out)).trans HB1.out)
  have HNP := Lib.hid (Lay.row_len HRP.out)
  have HG2 := Lib.hid (show GMap B b0 0 [] (.map []) w2 from (HG1.out.keep HX2.out.grown).raise (by have := HBB.out; omega))
  have HKP2 := Lib.hid (show Kpt b0 K1 [] (.map []) w2 w2 from Kpt.start (fun k v hc => absurd rfl hc) (fun h9 => ((HK1.out b0).1 h9).2 rfl) fun j hj => by have := ((HK1.out j).1 hj).1; omega)
  clear hBb hb0 hB hK1 HRP HB1 HG1
  go_loopw [11, 12, 13, 14, 15, 16, 17, 18, 23] (fun _ _ _ _ _ _ _ _ s23 W => ItA br tb ls b b0 B np K1 w2 s23 W) (fun _ _ _ _ _ _ _ _ s23 _ => toM np s23)
  case atStart => exact ⟨0, .map [], by omega, rfl, HG2.out, HKP2.out⟩
  case round =>
    obtain ⟨i, D, hi, rfl, hgm, hkp⟩ := hrel
    have HGM := Lib.hid hgm
    have HKP := Lib.hid hkp
    have HEX := Lib.hid (show Ext w wr from hkp.base HXW2.out fun j hj => (HK1.out j).2 (by have := HBB.out; omega))
    have HSZ := Lib.hid (show B ≤ wr.heap.size by have := hkp.size; have := HBB.out; omega)
    clear hgm hkp
    have hwi : IntKind.i64.wrap ((i : Int) + 1) = (i : Int) + 1 := IntWalk.i64_in _ (by omega)
    by_cases hlt : i < np
    case neg =>
      have hni : ¬ ((i : Int) < (np : Int)) := by omega
      have hti : hsI br tb ls b i = hits br tb ls b := by
        unfold hsI hits
        rw [List.take_of_length_le (by rw [← HNP.out]; omega)]
      have hl9 := HLEN.out i
      have hgm9 := HGM.out
      rw [hti] at hgm9 hl9
      have HIT := Lib.hid (items_any wr B b0 _ (hits br tb ls b) D hgm9 HSZ.out (by omega) (hits_key HOK.out))
      clear hgm9 hti hl9
      go_wp2_with (first | (go_at_call 57; refine (HIT.out).mono ?_; rintro e w5 ⟨A5, m5, c5, rfl, hT5, hb5⟩; have HT5 := Lib.hid hT5; have HB5 := Lib.hid hb5; clear hT5 hb5))
      go_ret
      refine ⟨A5, m5, c5, rfl, HT5.out, ?_⟩
      have h1 := HB5.out
      have h3 := HEX.out
      exact ⟨h1.os.trans h3.os, h1.tape.trans h3.tape, h1.output.trans h3.output, Nat.le_trans h3.size h1.size, fun j hj => (h1.block j (by have := HBB.out; omega)).trans (h3.block j hj)⟩
    have hI : (i : Int) < (np : Int) := by omega
    obtain ⟨p, hp⟩ : ∃ p, (pagesB b)[i]? = some p := ⟨_, List.getElem?_eq_getElem (by rw [← HNP.out]; exact hlt)⟩
    have hpm := List.mem_of_getElem? hp
    have hrw : kPg.row wr K1 Ap np (pagesB b) := Lay.row_keep HPR.out HKP.out.size fun j hj _ => HKP.out.block j hj
    obtain ⟨gb, off, cs, rfl, hgbl, _, hrep, hcs⟩ := Lay.row_at hrw hp
    obtain ⟨A7, n7, c7, A8, n8, c8, rfl, hn7, hn8, r7, r8⟩ := kPg_rep.1 hrep
    have y0 := fun o => (((Ext.refl wr).alloc o).cells.1 gb _ hgbl).trans (hcs 0 _ rfl)
    have y1 := fun o => (((Ext.refl wr).alloc o).cells.1 gb _ hgbl).trans (hcs 1 _ rfl)
    have y2 := fun o => (((Ext.refl wr).alloc o).cells.1 gb _ hgbl).trans (hcs 2 _ rfl)
    have y3 := fun o => (((Ext.refl wr).alloc o).cells.1 gb _ hgbl).trans (hcs 3 _ rfl)
    have y4 := fun o => (((Ext.refl wr).alloc o).cells.1 gb _ hgbl).trans (hcs 4 _ rfl)
    have y5 := fun o => (((Ext.refl wr).alloc o).cells.1 gb _ hgbl).trans (hcs 5 _ rfl)
    have x0 := hcs 0 _ rfl
    have x1 := hcs 1 _ rfl
    have x2 := hcs 2 _ rfl
    have x3 := hcs 3 _ rfl
    have x4 := hcs 4 _ rfl
    have x5 := hcs 5 _ rfl
    rw [kPg_sz] at x0 x1 x2 x3 x4 x5
    rw [Nat.add_zero] at x0
    simp only [kPg_sz, Nat.add_zero] at y0 y1 y2 y3 y4 y5
    obtain ⟨z11, hz11⟩ : ∃ z11, wr.heap.size = z11 := ⟨_, rfl⟩
    obtain ⟨w3, hw3⟩ : ∃ w3, wr.alloc (.cells #[.int .i64 p.num, .int .i64 p.suf, .int .i64 p.ent, .int .i64 p.ver, .slice A7 n7 c7, .slice A8 n8 c8] 84) = w3 := ⟨_, rfl⟩
    have hx3 : Ext wr w3 := by rw [← hw3]; exact (Ext.refl wr).alloc _
    have hB3 : w3.heap[z11]? = some (.cells #[.int .i64 p.num, .int .i64 p.suf, .int .i64 p.ent, .int .i64 p.ver, .slice A7 n7 c7, .slice A8 n8 c8] 84 (0, 0)) := by rw [← hw3, ← hz11]; exact heap_alloc_new _ _
    have HB3 := Lib.hid hB3
    have HX3 := Lib.hid hx3
    have hzb : w3.heap[z]? = some (.cells #[.int .i64 b.ms, .int .i64 b.ht, .slice A Nn c] 27 (0, 0)) := (hx3.block z (by have := HBB.out; have := HSZ.out; omega)).trans ((HKP.out.block z ((HK1.out z).2 (by have := HBB.out; omega))).trans HZB.out)
    have a0 := cell_of hzb (i := 0) rfl
    have a1 := cell_of hzb (i := 1) rfl
    have a2 := cell_of hzb (i := 2) rfl
    have e2 := cell_of hB3 (i := 2) rfl
    have e3 := cell_of hB3 (i := 3) rfl
    have HTX := Lib.hid (btext_any _ w3 b p.ent p.ver A Nn c (Lay.row_ext HR.out (HEX.out.trans hx3)) HBI.out.s HBI.out.vs)
    have HR7 := Lib.hid r7
    have HR8 := Lib.hid r8
    have HP := Lib.hid hp
    have HPM := Lib.hid hpm
    have HZ11 := Lib.hid hz11
    clear hrw hrep hcs r7 r8 hp hpm hx3 hB3 hzb
    cases ht : textB b p.ent p.ver with
    | none =>
      have HT := Lib.hid ht
      rw [ht] at HTX
      clear ht
      go_wp2_with (first | (go_at_call 52; refine (HTX.out).mono ?_; rintro e w4 ⟨A5, n5, c5, A6, n6, c6, rfl, hn5, hn6, r5, r6, hx4⟩; have HX4 := Lib.hid hx4; clear r5 r6 hx4; simp only [Option.isSome_none]))
      go_roundw
      case rel =>
        have hx5 := (HX3.out.trans HX4.out).alloc (.cells #[.slice A5 n5 c5, .slice A6 n6 c6] 53)
        have h0 : hsI br tb ls b (i + 1) = hsI br tb ls b i := by
          rw [hsI_succ br tb ls b HP.out]
          unfold hitP
          rw [HT.out]
          simp
        refine ⟨i + 1, D, by omega, by simp, ?_, ?_⟩
        · rw [h0]; exact HGM.out.keep hx5.grown
        · rw [h0]; exact HKP.out.extX hx5
      case measure => simp only [toM]; omega
    | some t =>
      have HT := Lib.hid ht
      rw [ht] at HTX
      clear ht
      go_upto_region 7 with (first | (go_at_call 52; refine (HTX.out).mono ?_; rintro e w4 ⟨A5, n5, c5, A6, n6, c6, rfl, hn5, hn6, r5, r6, hx4⟩; have HX4 := Lib.hid hx4; simp only [Option.getD_some] at r5 r6; have HR5 := Lib.hid r5; have HR6 := Lib.hid r6; clear r5 r6 hx4; simp only [Option.isSome_some]))
      obtain ⟨w5, hw5⟩ : ∃ w5, w4.alloc (.cells #[.slice A5 n5 c5, .slice A6 n6 c6] 53) = w5 := ⟨_, rfl⟩
      obtain ⟨z12, hz12⟩ : ∃ z12, w4.heap.size = z12 := ⟨_, rfl⟩
      have hx5 : Ext w4 w5 := by rw [← hw5]; exact (Ext.refl w4).alloc _
      have hB5 : w5.heap[z12]? = some (.cells #[.slice A5 n5 c5, .slice A6 n6 c6] 53 (0, 0)) := by rw [← hw5, ← hz12]; exact heap_alloc_new _ _
      rw [hw5, hz12]
      have hx35 := HX4.out.trans hx5
      have HX5 := Lib.hid (HX3.out.trans hx35)
      have HB5 := Lib.hid hB5
      have hB35 := (hx35.block _ (lt_of_block HB3.out)).trans HB3.out
      have HR5' := Lib.hid (Lay.row_ext HR5.out hx5)
      have HR6' := Lib.hid (Lay.row_ext HR6.out hx5)
      have HZ12 := Lib.hid (show wr.heap.size ≤ z12 ∧ z12 < w5.heap.size by rw [← hz12]; exact ⟨(HX3.out.trans HX4.out).lt, by rw [hz12]; exact lt_of_block hB5⟩)
      have HZ11' := Lib.hid (show wr.heap.size ≤ z11 ∧ z11 < w5.heap.size by rw [HZ11.out]; exact ⟨Nat.le_refl _, lt_of_block hB35⟩)
      have HB35 := Lib.hid hB35
      have e4 := cell_of hB35 (i := 4) rfl
      have e5 := cell_of hB35 (i := 5) rfl
      have hgt := HOK.out.hgt p HPM.out
      rw [List.length_append] at hgt
      have HCAT := Lib.hid (fun T => cat56 kLn kLn_sz K1 (w5.alloc (.cells #[.slice A7 n7 c7, .slice A8 n8 c8] T)) w5.heap.size A7 A8 n7 n8 c7 c8 p.body p.nts (Lay.row_ext HR7.out (HX5.out.alloc _)) (Lay.row_ext HR8.out (HX5.out.alloc _)) (by rw [Lay.row_len HR7.out]; omega) (by rw [Lay.row_len HR8.out]; omega) (by simp) (cell_of (heap_alloc_new w5 _) (i := 0) rfl) (cell_of (heap_alloc_new w5 _) (i := 1) rfl))
      clear hx5 hB5 hw5 hz12 hx35 hB35 a0 a1 a2 e2 e3 y0 y1 y2 y3 y4 y5 x0 x1 x2 x3 x4 x5 hw3 hz11
      obtain ⟨xs, hxs⟩ : ∃ xs, p.body ++ p.nts = xs := ⟨_, rfl⟩
      rw [hxs] at HCAT
      have hxl : xs.length ≤ 100 := by rw [← hxs, List.length_append]; exact hgt
      have HXS := Lib.hid hxs
      have HRNG := Lib.hid (show ∀ l ∈ xs, RngL 200 l by rw [← hxs]; exact HOK.out.rng p HPM.out)
      clear hxs hgt
      obtain ⟨L, hL⟩ : ∃ L, xs.length = L := ⟨_, rfl⟩
      rw [hL] at hxl
      have HL := Lib.hid hL
      clear hL
      go_wp2_with (first | (go_at_call 56; refine (HCAT.out _).mono ?_; rintro e w6 ⟨A9, c9, rfl, ho9, hx6⟩; have HO9 := Lib.hid ho9; have HX6 := Lib.hid (((Ext.refl w5).alloc _).trans hx6); have HSL9 := Lib.hid hx6.lt; clear ho9 hx6; rw [HL.out] at HO9 ⊢))
      obtain ⟨K2, hK2⟩ : ∃ K2 : Nat → Prop, (fun j => K1 j ∨ (wr.heap.size ≤ j ∧ j < w6.heap.size)) = K2 := ⟨_, rfl⟩
      have HK2 := Lib.hid (show ∀ j, K2 j ↔ K1 j ∨ (wr.heap.size ≤ j ∧ j < w6.heap.size) from fun j => by rw [← hK2])
      have HXR6 := Lib.hid (HX5.out.trans HX6.out)
      have HKP6 := Lib.hid (show Kpt b0 K2 (hsI br tb ls b i) D w6 w6 by rw [← hK2]; exact HKP.out.widen HGM.out HXR6.out.lt)
      have HGM6 := Lib.hid (HGM.out.keep HXR6.out.grown)
      have HLR := Lib.hid (show kLn.row w6 K2 A9 L xs from by
        obtain ⟨A10, c10, e10, _, hr10⟩ := Lay.own_row HO9.out
        have hlt9 := Lay.own_lt HO9.out
        obtain ⟨q1, q2, _⟩ := Value.slice.inj e10
        rw [← q1, ← q2] at hr10
        refine Lay.row_mono hr10 fun j hj hjl => (HK2.out j).2 ?_
        rcases hj with hj | hj
        · exact .inl hj
        · have h8 := (hlt9 j hj).1
          simp at h8
          exact .inr ⟨by have := HX5.out.lt; omega, hjl⟩)
      have HTR5 := Lib.hid (show kWs.row w6 K2 A5 n5 t.paras from Lay.row_ext (Lay.row_mono HR5'.out fun j hj hjl => (HK2.out j).2 (.inr ⟨by have := HX3.out.lt; omega, by have := HX6.out.lt; omega⟩)) HX6.out)
      have HTR6 := Lib.hid (show kWs.row w6 K2 A6 n6 t.notes from Lay.row_ext (Lay.row_mono HR6'.out fun j hj hjl => (HK2.out j).2 (.inr ⟨by have := HX3.out.lt; omega, by have := HX6.out.lt; omega⟩)) HX6.out)
      have HP6 := Lib.hid (show w6.heap[z11]? = some (.cells #[.int .i64 p.num, .int .i64 p.suf, .int .i64 p.ent, .int .i64 p.ver, .slice A7 n7 c7, .slice A8 n8 c8] 84 (0, 0)) ∧ K2 z11 from ⟨(HX6.out.block _ HZ11'.out.2).trans HB35.out, (HK2.out _).2 (.inr ⟨HZ11'.out.1, by have := HX6.out.lt; have := HZ11'.out; omega⟩)⟩)
      have HT6 := Lib.hid (show w6.heap[z12]? = some (.cells #[.slice A5 n5 c5, .slice A6 n6 c6] 53 (0, 0)) ∧ K2 z12 from ⟨(HX6.out.block _ HZ12.out.2).trans HB5.out, (HK2.out _).2 (.inr ⟨HZ12.out.1, by have := HX6.out.lt; have := HZ12.out; omega⟩)⟩)
      have HSE := Lib.hid (show ∀ X : World, w6.heap.size ≤ X.heap.size → (∀ j, K2 j → X.heap[j]? = w6.heap[j]?) → kSea.row X K2 A2 n2 ls from fun X h1 h2 => Lay.row_keep (Lay.row_mono (Lay.row_ext HSL.out (HEX.out.trans HXR6.out)) fun j hj _ => (HK2.out j).2 (.inl ((HK1.out j).2 (by have := HBB.out; omega)))) h1 fun j hj _ => h2 j hj)
      clear hK2 e4 e5 HO9 HCAT HTX HR5 HR6 HR5' HR6' HB5 HB35 HZ11' HZ12 HR7 HR8 HB3 HSL9
      have HHI := Lib.hid (show ∀ D' W, GMap B b0 (hsI br tb ls b i ++ hitL br tb ls t p xs L).length (hsI br tb ls b i ++ hitL br tb ls t p xs L) D' W → Kpt b0 K2 (hsI br tb ls b i ++ hitL br tb ls t p xs L) D' w6 W → ItA br tb ls b b0 B np K1 w2 (.int .i64 ((i : Int) + 1)) W from fun D' W g1 g2 => by
        have h0 : hsI br tb ls b (i + 1) = hsI br tb ls b i ++ hitL br tb ls t p xs L := by
          rw [hsI_succ br tb ls b HP.out]
          unfold hitP
          rw [HT.out, HXS.out]
          simp only
          rw [HL.out]
        exact ⟨i + 1, D', by omega, by simp, by rw [h0]; exact g1, by rw [h0]; exact HKP.out.narrowX HXR6.out g2 fun j hj => (HK2.out j).2 (.inl hj)⟩)
      have hhs := HLEN.out i
      generalize hsI br tb ls b i = hs at HKP HGM HKP6 HGM6 HHI hhs
      go_loopw [14, 15, 16, 17, 18, 45] (fun _ _ _ _ _ s45 W => ItB br tb ls t p xs hs b0 B K2 w6 s45 W) (fun _ _ _ _ _ s45 _ => toM L s45)
      case atStart => exact ⟨0, D, by omega, rfl, by have h9 := HGM6.out; simpa [hitL] using h9, by have h9 := HKP6.out; simpa [hitL] using h9⟩
      case round =>
        obtain ⟨k, D2, hk, rfl, hgm, hkp⟩ := hrel
        rename World => wq
        rw [HL.out] at hk
        have HGM2 := Lib.hid hgm
        have HKP2' := Lib.hid hkp
        clear hgm hkp
        have hwk : IntKind.i64.wrap ((k : Int) + 1) = (k : Int) + 1 := IntWalk.i64_in _ (by omega)
        by_cases hkl : k < L
        case neg =>
          obtain rfl : k = L := by omega
          have hnk : ¬ ((k : Int) < (k : Int)) := by omega
          have HREL := Lib.hid (HHI.out D2 wq HGM2.out HKP2'.out)
          go_wp2_with fail
          go_roundw
          case rel => exact HREL.out
          case measure => simp only [toM]; omega
        have hkI : (k : Int) < (L : Int) := by omega
        obtain ⟨l, hl⟩ : ∃ l, xs[k]? = some l := ⟨_, List.getElem?_eq_getElem (by rw [HL.out]; exact hkl)⟩
        have hrg := HRNG.out l (List.mem_of_getElem? hl)
        have hlr : kLn.row wq K2 A9 L xs := Lay.row_keep HLR.out HKP2'.out.size fun j hj _ => HKP2'.out.block j hj
        obtain ⟨gl, ol, cs, rfl, hgl, _, hrep, hcs⟩ := Lay.row_at hlr hl
        obtain ⟨A3, n3, c3, A4, n4, c4, rfl, _, _, _, _⟩ := kLn_rep.1 hrep
        have y0 := fun o => (((Ext.refl wq).alloc o).cells.1 gl _ hgl).trans (hcs 0 _ rfl)
        have y1 := fun o => (((Ext.refl wq).alloc o).cells.1 gl _ hgl).trans (hcs 1 _ rfl)
        have y2 := fun o => (((Ext.refl wq).alloc o).cells.1 gl _ hgl).trans (hcs 2 _ rfl)
        have y3 := fun o => (((Ext.refl wq).alloc o).cells.1 gl _ hgl).trans (hcs 3 _ rfl)
        have x0 := hcs 0 _ rfl
        have x1 := hcs 1 _ rfl
        have x2 := hcs 2 _ rfl
        have x3 := hcs 3 _ rfl
        rw [kLn_sz] at x0 x1 x2 x3
        rw [Nat.add_zero] at x0
        simp only [kLn_sz, Nat.add_zero] at y0 y1 y2 y3
        obtain ⟨z15, hz15⟩ : ∃ z15, wq.heap.size = z15 := ⟨_, rfl⟩
        obtain ⟨w7, hw7⟩ : ∃ w7, wq.alloc (.cells #[.int .i64 l.fr, .int .i64 l.un, .slice A3 n3 c3, .slice A4 n4 c4] 86) = w7 := ⟨_, rfl⟩
        have hx7 : Ext wq w7 := by rw [← hw7]; exact (Ext.refl wq).alloc _
        have hB7 : w7.heap[z15]? = some (.cells #[.int .i64 l.fr, .int .i64 l.un, .slice A3 n3 c3, .slice A4 n4 c4] 86 (0, 0)) := by rw [← hw7, ← hz15]; exact heap_alloc_new _ _
        have HX7 := Lib.hid hx7
        have HB7 := Lib.hid hB7
        have e0 := cell_of hB7 (i := 0) rfl
        obtain ⟨K3, hK3⟩ : ∃ K3 : Nat → Prop, (fun j => K2 j ∨ (wq.heap.size ≤ j ∧ j < w7.heap.size)) = K3 := ⟨_, rfl⟩
        have HK3 := Lib.hid (show ∀ j, K3 j ↔ K2 j ∨ (wq.heap.size ≤ j ∧ j < w7.heap.size) from fun j => by rw [← hK3])
        have HKP7 := Lib.hid (show Kpt b0 K3 (hs ++ hitL br tb ls t p xs k) D2 w7 w7 by rw [← hK3]; exact HKP2'.out.widen HGM2.out hx7.lt)
        have HGM7 := Lib.hid (HGM2.out.keep hx7.grown)
        have HKZ15 := Lib.hid ((HK3.out z15).2 (.inr ⟨by omega, lt_of_block hB7⟩))
        have HX26 := Lib.hid (show ∀ j, K2 j → w7.heap[j]? = w6.heap[j]? from fun j hj => (hx7.block j (Nat.lt_of_lt_of_le (HKP2'.out.lt j hj) HKP2'.out.size)).trans (HKP2'.out.block j hj))
        have HS67 := Lib.hid (show w6.heap.size ≤ w7.heap.size from Nat.le_trans HKP2'.out.size hx7.lt)
        have HLK := Lib.hid (show ∀ D' W, GMap B b0 ((hs ++ hitL br tb ls t p xs k) ++ hitN br tb ls t p k l.fr (l.un - l.fr).toNat).length ((hs ++ hitL br tb ls t p xs k) ++ hitN br tb ls t p k l.fr (l.un - l.fr).toNat) D' W → Kpt b0 K3 ((hs ++ hitL br tb ls t p xs k) ++ hitN br tb ls t p k l.fr (l.un - l.fr).toNat) D' w7 W → ItB br tb ls t p xs hs b0 B K2 w6 (.int .i64 ((k : Int) + 1)) W from fun D' W g1 g2 => by
          have h0 : hs ++ hitL br tb ls t p xs (k + 1) = (hs ++ hitL br tb ls t p xs k) ++ hitN br tb ls t p k l.fr (l.un - l.fr).toNat := by
            rw [hitL_succ br tb ls t p hl, ← List.append_assoc]; rfl
          exact ⟨k + 1, D', by rw [HL.out]; omega, by simp, by rw [h0]; exact g1, by rw [h0]; exact HKP2'.out.narrowX HX7.out g2 fun j hj => (HK3.out j).2 (.inl hj)⟩)
        have hhk : (hitL br tb ls t p xs k).length ≤ 4000 := Nat.le_trans (hitL_len br tb ls t p xs HRNG.out k) (by omega)
        have hhs2 : (hs ++ hitL br tb ls t p xs k).length ≤ 16004000 := by rw [List.length_append]; omega
        generalize hs ++ hitL br tb ls t p xs k = hs2 at HKP2' HGM2 HKP7 HGM7 HLK hhs2
        obtain ⟨lfr, hlfr⟩ : ∃ lfr, l.fr = lfr := ⟨_, rfl⟩
        obtain ⟨lun, hlun⟩ : ∃ lun, l.un = lun := ⟨_, rfl⟩
        unfold RngL at hrg
        rw [hlfr] at HLK hrg hB7 HB7 e0 y0 x0 hw7
        rw [hlun] at HLK hrg hB7 HB7 y1 x1 hw7
        obtain ⟨hrg1, hrg2, hrg3⟩ := hrg
        clear hl hlr hrep hcs hx7 hB7 hK3 hlfr hlun hhk
        go_upto_region 11 with (fail)
        clear y0 y1 y2 y3 x0 x1 x2 x3 e0 hw7 hz15
        go_loopw [16, 17, 18] (fun s16 _ _ W => ItN br tb ls t p k lfr lun hs2 b0 B K3 w7 s16 W) (fun s16 _ _ _ => itM lun s16)
        case atStart => exact ⟨0, D2, by omega, by simp, by have h9 := HGM7.out; simpa [hitN] using h9, by have h9 := HKP7.out; simpa [hitN] using h9⟩
        case round =>
          obtain ⟨m, D3, hm, rfl, hgm, hkp⟩ := hrel
          rename World => wv
          have HGM3 := Lib.hid hgm
          have HKP3 := Lib.hid hkp
          obtain ⟨nn, hnn⟩ : ∃ nn, lfr + (m : Int) = nn := ⟨_, rfl⟩
          rw [hnn]
          have HNN := Lib.hid hnn
          have q1 := hkp.cell HKZ15.out (cell_of HB7.out (i := 1) rfl)
          have hkt := (HK3.out z12).2 (.inl HT6.out.2)
          have hkp11 := (HK3.out z11).2 (.inl HP6.out.2)
          have q2 := hkp.cell hkt (cell_of ((HX26.out z12 HT6.out.2).trans HT6.out.1) (i := 0) rfl)
          have q3 := hkp.cell hkt (cell_of ((HX26.out z12 HT6.out.2).trans HT6.out.1) (i := 1) rfl)
          have hml : (hitN br tb ls t p k lfr m).length ≤ m := hitN_len br tb ls t p k lfr m
          have hlen3 : (hs2 ++ hitN br tb ls t p k lfr m).length ≤ 16005000 := by rw [List.length_append]; omega
          have HST := Lib.hid (show hs2 ++ hitN br tb ls t p k lfr (m + 1) = (hs2 ++ hitN br tb ls t p k lfr m) ++ hitW br tb ls t p k nn by rw [hitN_succ, ← List.append_assoc, hnn])
          clear hgm hkp hnn hml
          by_cases hnu : nn < lun
          case neg =>
            have hmE : m = (lun - lfr).toNat := by have := HNN.out; omega
            subst hmE
            have HREL := Lib.hid (HLK.out D3 wv HGM3.out HKP3.out)
            go_wp2_with fail
            go_roundw
            case rel => exact HREL.out
            case measure => simp only [toM]; omega
          have hot := textB_ok HOK.out HT.out
          obtain ⟨hw1, hw2⟩ := hot.words
          have hwn : IntKind.i64.wrap (nn + 1) = nn + 1 := IntWalk.i64_in _ (by have := HNN.out; omega)
          have HV2 := Lib.hid (show ∀ j, K2 j → wv.heap[j]? = w6.heap[j]? from fun j hj => (HKP3.out.block j ((HK3.out j).2 (.inl hj))).trans (HX26.out j hj))
          have HSV := Lib.hid (Nat.le_trans HS67.out HKP3.out.size)
          have HWD := Lib.hid (gword_any K2 wv A5 A6 n5 n6 c5 c6 t nn (Lay.row_keep HTR5.out HSV.out fun j hj _ => HV2.out j hj) (Lay.row_keep HTR6.out HSV.out fun j hj _ => HV2.out j hj) (by have := hot.np; omega) (by have := hot.nn; omega) (by omega) (by omega))
          have HMS := Lib.hid (show ∀ D' W, GMap B b0 (hs2 ++ hitN br tb ls t p k lfr (m + 1)).length (hs2 ++ hitN br tb ls t p k lfr (m + 1)) D' W → Kpt b0 K3 (hs2 ++ hitN br tb ls t p k lfr (m + 1)) D' w7 W → ItN br tb ls t p k lfr lun hs2 b0 B K3 w7 (.int .i64 (nn + 1)) W from fun D' W g1 g2 => ⟨m + 1, D', by have := HNN.out; omega, by have := HNN.out; congr 1; simp only [Int.natCast_add]; omega, g1, g2⟩)
          rw [HST.out] at HMS
          clear hw1 hw2 hot hm
          cases ho : wordT t nn with
          | none =>
            have hW0 : hitW br tb ls t p k nn = [] := by unfold hitW; rw [ho]
            rw [hW0, List.append_nil] at HMS
            rw [ho] at HWD
            clear ho hW0
            have HWN := Lib.hid (show Calls Tryz.prog 32 #[.agg #[.slice A5 n5 c5, .slice A6 n6 c6], .int .i64 nn] wv (fun e w' => e = .returned (.tuple #[.agg #[.string ⟨#[]⟩, .string ⟨#[]⟩, .int .i64 0, .int .i64 0], .bool false]) ∧ Ext wv w') from HWD.out)
            go_wp2_with (first | (go_at_call 32; refine (HWN.out).mono ?_; rintro e w8 ⟨rfl, hx8⟩; have HX8 := Lib.hid hx8; clear hx8))
            go_roundw
            case rel => exact HMS.out D3 _ (HGM3.out.keep (HX8.out.alloc _).grown) (HKP3.out.extX (HX8.out.alloc _))
            case measure => simp only [itM]; omega
          | some x =>
            rw [ho] at HWD
            have HO := Lib.hid ho
            clear ho
            have HWS := Lib.hid (show Calls Tryz.prog 32 #[.agg #[.slice A5 n5 c5, .slice A6 n6 c6], .int .i64 nn] wv (fun e w' => e = .returned (.tuple #[.agg #[.string ⟨x.s.toArray⟩, .string ⟨x.key.toArray⟩, .int .i64 x.tb, .int .i64 x.nt], .bool true]) ∧ Ext wv w') from HWD.out)
            go_upto_region 14 with (first | (go_at_call 32; refine (HWS.out).mono ?_; rintro e w8 ⟨rfl, hx8⟩; have HX8 := Lib.hid hx8; clear hx8))
            obtain ⟨w9, hw9⟩ : ∃ w9, w8.alloc (.cells #[.string ⟨x.s.toArray⟩, .string ⟨x.key.toArray⟩, .int .i64 x.tb, .int .i64 x.nt] 60) = w9 := ⟨_, rfl⟩
            obtain ⟨z17, hz17⟩ : ∃ z17, w8.heap.size = z17 := ⟨_, rfl⟩
            have hx9 : Ext w8 w9 := by rw [← hw9]; exact (Ext.refl w8).alloc _
            have hB9 : w9.heap[z17]? = some (.cells #[.string ⟨x.s.toArray⟩, .string ⟨x.key.toArray⟩, .int .i64 x.tb, .int .i64 x.nt] 60 (0, 0)) := by rw [← hw9, ← hz17]; exact heap_alloc_new _ _
            rw [hw9, hz17]
            have HX9 := Lib.hid (HX8.out.trans hx9)
            have HB9 := Lib.hid hB9
            have HZ17 := Lib.hid (show wv.heap.size ≤ z17 by rw [← hz17]; exact HX8.out.lt)
            have g1 := cell_of hB9 (i := 1) rfl
            have g2 := cell_of hB9 (i := 2) rfl
            clear hx9 hB9 hw9 hz17 q1 q2 q3
            have HNO := Lib.hid (show hitW br tb ls t p k nn = [] → ∀ Y, Ext w9 Y → ItN br tb ls t p k lfr lun hs2 b0 B K3 w7 (.int .i64 (nn + 1)) Y from fun h0 Y hY => by
              have h9 := HMS.out
              rw [h0, List.append_nil] at h9
              exact h9 D3 Y (HGM3.out.keep (HX9.out.trans hY).grown) (HKP3.out.extX (HX9.out.trans hY)))
            have hWD : hitW br tb ls t p k nn = if x.key ≠ [] ∧ x.tb = tb ∧ seald ls p.ent p.ver nn = false then [(x.key, ⟨br, p.num, p.suf, (k : Int) + 1⟩)] else [] := by unfold hitW; rw [HO.out]
            by_cases hk0 : x.key = []
            · have h0 : hitW br tb ls t p k nn = [] := by rw [hWD, if_neg (by simp [hk0])]
              have HREL := Lib.hid (HNO.out h0 w9 (Ext.refl _))
              rw [hk0] at g1
              clear h0 hWD hk0
              go_wp2_with fail
              go_roundw
              case rel => exact HREL.out
              case measure => simp only [itM]; omega
            · have hkb : (x.key == []) = false := by simpa using hk0
              by_cases ht0 : x.tb = tb
              case neg =>
                have h0 : hitW br tb ls t p k nn = [] := by rw [hWD, if_neg (by simp [ht0])]
                have HREL := Lib.hid (HNO.out h0 w9 (Ext.refl _))
                have htb : (x.tb == tb) = false := by simpa using ht0
                clear h0 hWD hk0 ht0
                go_wp2_with fail
                go_roundw
                case rel => exact HREL.out
                case measure => simp only [itM]; omega
              have htb : (x.tb == tb) = true := by simpa using ht0
              have hP9 : w9.heap[z11]? = some (.cells #[.int .i64 p.num, .int .i64 p.suf, .int .i64 p.ent, .int .i64 p.ver, .slice A7 n7 c7, .slice A8 n8 c8] 84 (0, 0)) := (HX9.out.block _ (Nat.lt_of_lt_of_le (HKP3.out.lt z11 hkp11) HKP3.out.size)).trans ((HV2.out z11 HP6.out.2).trans HP6.out.1)
              have HP9 := Lib.hid hP9
              have g3 := cell_of hP9 (i := 2) rfl
              have g4 := cell_of hP9 (i := 3) rfl
              have HGR := Lib.hid (groups_any K2 w9 A2 n2 c2 ls p.ent p.ver nn (HSE.out w9 (Nat.le_trans HSV.out HX9.out.lt) fun j hj => (HX9.out.block j (by have := HKP3.out.lt j ((HK3.out j).2 (.inl hj)); have := HKP3.out.size; omega)).trans (HV2.out j hj)) hn2 hgr)
              have HHK := Lib.hid hkp11
              clear hP9
              cases hsl9 : seald ls p.ent p.ver nn with
              | true =>
                have h0 : hitW br tb ls t p k nn = [] := by rw [hWD, if_neg (by simp [hsl9])]
                have HNR := Lib.hid (HNO.out h0)
                rw [hsl9] at HGR
                clear h0 hWD hk0 ht0 hsl9
                go_wp2_with (first | (go_at_call 34; refine (HGR.out).mono ?_; rintro e w10 ⟨g, rfl, hg, hx10⟩; have HX10 := Lib.hid hx10; have hg0 : (g == 0) = false := beq_eq_false_iff_ne.2 (fun e9 => absurd (hg.1 e9) (by decide)); clear hg hx10))
                go_roundw
                case rel => exact HNR.out _ HX10.out
                case measure => simp only [itM]; omega
              | false =>
                have hW1 : hitW br tb ls t p k nn = [(x.key, ⟨br, p.num, p.suf, (k : Int) + 1⟩)] := by rw [hWD, if_pos ⟨hk0, ht0, hsl9⟩]
                rw [hW1] at HMS
                rw [hsl9] at HGR
                have hxk : x.key.length ≤ 1000 := hitW_key (textB_ok HOK.out HT.out) (x.key, ⟨br, p.num, p.suf, (k : Int) + 1⟩) (by rw [hW1]; exact .head _)
                obtain ⟨v, hlook, hvK, hvW, hpush⟩ := GMap.push2 HGM3.out (Nat.le_trans (by have := HBB.out; have := HXR6.out.lt; have := HSZ.out; omega) HSV.out) (k := x.key) (by unfold maxLen; omega) (by omega) (by omega)
                have HLOOK := Lib.hid hlook
                have HVK := Lib.hid hvK
                have HVW := Lib.hid hvW
                have HPUSH := Lib.hid hpush
                clear hlook hvK hvW hpush hW1 hWD hk0 ht0 hsl9 hxk
                go_upto_region 15 with (first | (go_at_call 34; refine (HGR.out).mono ?_; rintro e w10 ⟨g, rfl, hg, hx10⟩; have HX10 := Lib.hid hx10; obtain rfl : g = 0 := hg.2 rfl; clear hg hx10))
                have hX0 : Ext wv (w10.drew.alloc (.cells #[.int .i64 br, .int .i64 p.num, .int .i64 p.suf, .int .i64 ((k : Int) + 1)] 69)) := (HX9.out.trans HX10.out).drew.alloc _
                obtain ⟨A6', m6, c6', X1, hrun, hmap1, hk1, D', X2, hrun2, hp2⟩ := HPUSH.out _ hX0.grown _ (some ⟨w10.drew.heap.size, 0, none⟩) 1 1 [⟨br, p.num, p.suf, (k : Int) + 1⟩] (ct_new w10.drew ⟨br, p.num, p.suf, (k : Int) + 1⟩) (by simp) (by simp)
                have HREL := Lib.hid (HMS.out D' X2 (by have h9 := hp2.gm; simpa [Nat.add_assoc] using h9) ((HKP3.out.extX hX0).push HVK.out hp2))
                obtain ⟨X0, hX0e⟩ : ∃ X0, w10.drew.alloc (.cells #[.int .i64 br, .int .i64 p.num, .int .i64 p.suf, .int .i64 ((k : Int) + 1)] 69) = X0 := ⟨_, rfl⟩
                have hB10 := (HX10.out.block _ (lt_of_block HB9.out)).trans HB9.out
                have hP10 := (HX10.out.block _ (lt_of_block HP9.out)).trans HP9.out
                have hx1010 : Ext w10 X0 := by rw [← hX0e]; exact (Ext.refl w10).drew.alloc _
                have hB0 := (hx1010.block _ (lt_of_block hB10)).trans hB10
                have hP0 := (hx1010.block _ (lt_of_block hP10)).trans hP10
                rw [hX0e] at hX0 hrun hk1
                have RUN := Lib.hid (show (Builtin.append_ #[38, 38] 38 #[v, .slice (some ⟨w10.heap.size, 0, none⟩) 1 1]).run Tryz.prog X0 = .ok (.slice A6' m6 c6') X1 from hrun)
                have RUN2 := Lib.hid hrun2
                have HS := Lib.hid (show w10.drew.cell? ⟨z17, 1, none⟩ = some (.string ⟨x.key.toArray⟩) ∧ w10.drew.cell? ⟨z11, 0, none⟩ = some (.int .i64 p.num) ∧ w10.drew.cell? ⟨z11, 1, none⟩ = some (.int .i64 p.suf) ∧ (Instr.lookup 105 (.map (some b0)) (.string ⟨x.key.toArray⟩) false).run Tryz.prog w10.drew = .ok v w10.drew from ⟨cell_of (W := w10.drew) hB10 (i := 1) rfl, cell_of (W := w10.drew) hP10 (i := 0) rfl, cell_of (W := w10.drew) hP10 (i := 1) rfl, HLOOK.out _ (HGM3.out.own.kept (HX9.out.trans HX10.out).drew.grown (by simp))⟩)
                have HS0 := Lib.hid (show X0.cell? ⟨z17, 1, none⟩ = some (.string ⟨x.key.toArray⟩) ∧ X0.cell? ⟨z11, 0, none⟩ = some (.int .i64 p.num) ∧ X0.cell? ⟨z11, 1, none⟩ = some (.int .i64 p.suf) ∧ (Instr.lookup 105 (.map (some b0)) (.string ⟨x.key.toArray⟩) false).run Tryz.prog X0 = .ok v X0 from ⟨cell_of hB0 (i := 1) rfl, cell_of hP0 (i := 0) rfl, cell_of hP0 (i := 1) rfl, HLOOK.out _ (HGM3.out.own.kept hX0.grown (by simp))⟩)
                have hB1 : X1.heap[z17]? = _ := (hk1 z17 (lt_of_block hB0) fun e9 => by have := HVW.out z17 e9; have := HZ17.out; omega).trans hB0
                have hP1 : X1.heap[z11]? = _ := (hk1 z11 (lt_of_block hP0) fun e9 => HVK.out K3 HKP3.out.av z11 e9 HHK.out).trans hP0
                have HS1 := Lib.hid (show X1.cell? ⟨z17, 1, none⟩ = some (.string ⟨x.key.toArray⟩) ∧ X1.cell? ⟨z11, 0, none⟩ = some (.int .i64 p.num) ∧ X1.cell? ⟨z11, 1, none⟩ = some (.int .i64 p.suf) ∧ (Instr.lookup 105 (.map (some b0)) (.string ⟨x.key.toArray⟩) false).run Tryz.prog X1 = .ok v X1 from ⟨cell_of hB1 (i := 1) rfl, cell_of hP1 (i := 0) rfl, cell_of hP1 (i := 1) rfl, HLOOK.out _ hmap1⟩)
                clear hX0 hrun hmap1 hk1 hrun2 hp2 hB10 hP10 hx1010 hB0 hP0 hB1 hP1 g1 g2 g3 g4
                have hS0 : (fun X : World => X.cell? ⟨z17, 1, none⟩ = some (.string ⟨x.key.toArray⟩) ∧ X.cell? ⟨z11, 0, none⟩ = some (.int .i64 p.num) ∧ X.cell? ⟨z11, 1, none⟩ = some (.int .i64 p.suf) ∧ (Instr.lookup 105 (.map (some b0)) (.string ⟨x.key.toArray⟩) false).run Tryz.prog X = .ok v X) w10.drew := HS.out
                refine wp_region_E (fun X : World => X.cell? ⟨z17, 1, none⟩ = some (.string ⟨x.key.toArray⟩) ∧ X.cell? ⟨z11, 0, none⟩ = some (.int .i64 p.num) ∧ X.cell? ⟨z11, 1, none⟩ = some (.int .i64 p.suf) ∧ (Instr.lookup 105 (.map (some b0)) (.string ⟨x.key.toArray⟩) false).run Tryz.prog X = .ok v X) (fun _ => True) (fun i => i == 15) (by kernel_rfl) ?_
                refine wpE_takeS (i := 0) (d := some 86) (v := .map (some b0)) rfl rfl (by kernel_rfl) (by kernel_rfl) (by kernel_rfl) (by kernel_rfl) (fun _ _ _ h => h) (by rfl) ?hy1 hS0 trivial ?go1
                case hy1 =>
                  intro w9 hT9
                  clear hT9; go_simp
                (try simp only [Act.put, List.setIfInBounds_toArray, List.set_cons_zero, List.set_cons_succ])
                refine wpE_takeS (i := 1) (d := some 87) (v := .pointer (some ⟨z17, 1, none⟩)) rfl rfl (by kernel_rfl) (by kernel_rfl) (by kernel_rfl) (by kernel_rfl) (fun _ _ _ h => h) (by rfl) ?hy2 hS0 trivial ?go2
                case hy2 =>
                  intro w9 hT9
                  clear hT9; go_simp
                (try simp only [Act.put, List.setIfInBounds_toArray, List.set_cons_zero, List.set_cons_succ])
                refine wpE_takeS (i := 2) (d := some 88) (v := .string ⟨x.key.toArray⟩) rfl rfl (by kernel_rfl) (by kernel_rfl) (by kernel_rfl) (by kernel_rfl) (fun _ _ _ h => h) (by rfl) ?hy3 hS0 trivial ?go3
                case hy3 =>
                  intro w9 hT9
                  obtain ⟨s0, s1, s2, s3⟩ := hT9; go_simp
                (try simp only [Act.put, List.setIfInBounds_toArray, List.set_cons_zero, List.set_cons_succ])
                refine wpE_takeS (i := 3) (d := some 89) (v := .map (some b0)) rfl rfl (by kernel_rfl) (by kernel_rfl) (by kernel_rfl) (by kernel_rfl) (fun _ _ _ h => h) (by rfl) ?hy4 hS0 trivial ?go4
                case hy4 =>
                  intro w9 hT9
                  clear hT9; go_simp
                (try simp only [Act.put, List.setIfInBounds_toArray, List.set_cons_zero, List.set_cons_succ])
                refine wpE_takeS (i := 4) (d := some 90) (v := .pointer (some ⟨z17, 1, none⟩)) rfl rfl (by kernel_rfl) (by kernel_rfl) (by kernel_rfl) (by kernel_rfl) (fun _ _ _ h => h) (by rfl) ?hy5 hS0 trivial ?go5
                case hy5 =>
                  intro w9 hT9
                  clear hT9; go_simp
                (try simp only [Act.put, List.setIfInBounds_toArray, List.set_cons_zero, List.set_cons_succ])
                refine wpE_takeS (i := 5) (d := some 91) (v := .string ⟨x.key.toArray⟩) rfl rfl (by kernel_rfl) (by kernel_rfl) (by kernel_rfl) (by kernel_rfl) (fun _ _ _ h => h) (by rfl) ?hy6 hS0 trivial ?go6
                case hy6 =>
                  intro w9 hT9
                  obtain ⟨s0, s1, s2, s3⟩ := hT9; go_simp
                (try simp only [Act.put, List.setIfInBounds_toArray, List.set_cons_zero, List.set_cons_succ])
                refine wpE_takeS (i := 6) (d := some 92) (v := v) rfl rfl (by kernel_rfl) (by kernel_rfl) (by kernel_rfl) (by kernel_rfl) (fun _ _ _ h => h) (by rfl) ?hy7 hS0 trivial ?go7
                case hy7 =>
                  intro w9 hT9
                  obtain ⟨s0, s1, s2, s3⟩ := hT9; go_simp
                (try simp only [Act.put, List.setIfInBounds_toArray, List.set_cons_zero, List.set_cons_succ])
                refine wpE_takeS (i := 7) (d := some 93) (v := .int .i64 br) rfl rfl (by kernel_rfl) (by kernel_rfl) (by kernel_rfl) (by kernel_rfl) (fun _ _ _ h => h) (by rfl) ?hy8 hS0 trivial ?go8
                case hy8 =>
                  intro w9 hT9
                  clear hT9; go_simp
                (try simp only [Act.put, List.setIfInBounds_toArray, List.set_cons_zero, List.set_cons_succ])
                refine wpE_takeS (i := 8) (d := some 94) (v := .pointer (some ⟨z11, 0, none⟩)) rfl rfl (by kernel_rfl) (by kernel_rfl) (by kernel_rfl) (by kernel_rfl) (fun _ _ _ h => h) (by rfl) ?hy9 hS0 trivial ?go9
                case hy9 =>
                  intro w9 hT9
                  clear hT9; go_simp
                (try simp only [Act.put, List.setIfInBounds_toArray, List.set_cons_zero, List.set_cons_succ])
                refine wpE_takeS (i := 9) (d := some 95) (v := .agg #[.int .i64 p.num, .int .i64 p.suf]) rfl rfl (by kernel_rfl) (by kernel_rfl) (by kernel_rfl) (by kernel_rfl) (fun _ _ _ h => h) (by rfl) ?hy10 hS0 trivial ?go10
                case hy10 =>
                  intro w9 hT9
                  obtain ⟨s0, s1, s2, s3⟩ := hT9; go_simp
                (try simp only [Act.put, List.setIfInBounds_toArray, List.set_cons_zero, List.set_cons_succ])
                refine wpE_takeS (i := 10) (d := some 96) (v := .int .i64 (k : Int)) rfl rfl (by kernel_rfl) (by kernel_rfl) (by kernel_rfl) (by kernel_rfl) (fun _ _ _ h => h) (by rfl) ?hy11 hS0 trivial ?go11
                case hy11 =>
                  intro w9 hT9
                  clear hT9; go_simp
                (try simp only [Act.put, List.setIfInBounds_toArray, List.set_cons_zero, List.set_cons_succ])
                refine wpE_takeS (i := 11) (d := some 97) (v := .int .i64 ((k : Int) + 1)) rfl rfl (by kernel_rfl) (by kernel_rfl) (by kernel_rfl) (by kernel_rfl) (fun _ _ _ h => h) (by rfl) ?hy12 hS0 trivial ?go12
                case hy12 =>
                  intro w9 hT9
                  clear hT9; go_simp
                (try simp only [Act.put, List.setIfInBounds_toArray, List.set_cons_zero, List.set_cons_succ])
                refine wpE_takeS (i := 12) (d := some 98) (v := .agg #[.int .i64 br, .int .i64 p.num, .int .i64 p.suf, .int .i64 ((k : Int) + 1)]) rfl rfl (by kernel_rfl) (by kernel_rfl) (by kernel_rfl) (by kernel_rfl) (fun _ _ _ h => h) (by rfl) ?hy13 hS0 trivial ?go13
                case hy13 =>
                  intro w9 hT9
                  clear hT9; go_simp
                (try simp only [Act.put, List.setIfInBounds_toArray, List.set_cons_zero, List.set_cons_succ])
                refine wpE_all (rs := [13]) (by kernel_rfl) (by simp) ?_
                refine AllE.cons rfl (fun K hK => ?_) AllE.nil
                simp only [List.getElem_toArray, List.getElem_cons_succ, List.getElem_cons_zero]
                go_simp
                refine hK.out _ _ ⟨fun _ => HS0.out, trivial⟩ (fun _ => ?_)
                clear hK K
                have hS0 := HS0.out
                (try simp only [Act.put, List.setIfInBounds_toArray, List.set_cons_zero, List.set_cons_succ])
                refine wpE_all (rs := [14]) (by kernel_rfl) (by simp) ?_
                refine AllE.cons rfl (fun K hK => ?_) AllE.nil
                simp only [List.getElem_toArray, List.getElem_cons_succ, List.getElem_cons_zero]
                refine step_append_tm (s := .tmp 92) (x := .tmp 99) RUN.out rfl rfl rfl rfl rfl ?_
                refine hK.out _ _ ⟨fun _ => HS1.out, trivial⟩ (fun _ => ?_)
                clear hK K
                have hS0 := HS1.out
                (try simp only [Act.put, List.setIfInBounds_toArray, List.set_cons_zero, List.set_cons_succ])
                refine wpE_all (rs := [15]) (by kernel_rfl) (by simp) ?_
                refine AllE.cons rfl (fun K hK => ?_) AllE.nil
                simp only [List.getElem_toArray, List.getElem_cons_succ, List.getElem_cons_zero]
                refine step_mapU (m := .tmp 86) (k := .tmp 88) (x := .tmp 100) RUN2.out rfl rfl rfl rfl rfl ?_
                refine hK.out _ _ ⟨fun h => absurd h (by simp), trivial⟩ (fun _ => ?_)
                clear hK K
                (try simp only [Act.put])
                refine wpE_done (by kernel_rfl) ?_ _
                go_wp2_with fail
                go_roundw
                case rel => exact HREL.out
                case measure => simp only [itM]; omega
end Go.Proofs.YtdbnddmncbjobaaGreatDoor

/- The example of the chapter: a book in plain Lean; word, example: walked. -/
namespace Go.Proofs.YtdbnddmncbjobaaGreatDoor
open Go Go.RowKit
attribute [local go_sem] Oper.semAt_some

/-- A block of elements, as a row. -/
theorem row_block {β : Type} {k : Lay β} {W : World} {P : Nat → Prop} {g : Nat} {T : TypeId} {cur : Array Value} {ds : List (Cs k.sz)} {xs : List β} (hb : W.heap[g]? = some (.cells cur T (0, 0))) (hc : cur.toList = gcells ccf ds) (hl : ds.length = xs.length) (hP : P g)
    (hr : ∀ (i : Nat) (d : Cs k.sz) (x : β), ds[i]? = some d → xs[i]? = some x → k.rep W P x d.1) : k.row W P (some ⟨g, 0, none⟩) xs.length xs := by
  have hg := lt_of_block hb
  refine ⟨ds, rfl, hl, ⟨hl.symm, fun _ => ⟨g, 0, rfl, hg, fun i d hd j u hu => ?_⟩⟩, fun x hx => by injection hx with hx; subst hx; exact ⟨hP, hg⟩, hr⟩
  have hj : j < k.sz := by rw [← ccf_len d]; exact (List.getElem?_eq_some_iff.1 hu).1
  have h1 := gcells_at ccf_len ds i d hd j hj
  rw [hu, ← hc] at h1
  rw [Nat.zero_add]
  exact cell_of hb (by rw [← Array.getElem?_toList]; exact h1)
def wdC (x : Wd) : Cs kWd.sz := ⟨[.string ⟨x.s.toArray⟩, .string ⟨x.key.toArray⟩, .int .i64 x.tb, .int .i64 x.nt], rfl, fun u hu => by simp only [List.mem_cons, List.not_mem_nil, or_false] at hu; rcases hu with rfl | rfl | rfl | rfl <;> rfl⟩
theorem wd_block {W : World} {P : Nat → Prop} {g : Nat} {T : TypeId} {cur : Array Value} (xs : List Wd) (hb : W.heap[g]? = some (.cells cur T (0, 0))) (hc : cur.toList = gcells ccf (xs.map wdC)) (hP : P g) : kWd.row W P (some ⟨g, 0, none⟩) xs.length xs :=
  row_block hb hc (by simp) hP fun i d x hd hx => by
    rw [List.getElem?_map, hx] at hd
    obtain rfl := Option.some.inj hd
    exact kWd_rep.2 rfl
def slC (A : Option Addr) (n c : Nat) : Cs kWs.sz := ⟨[.slice A n c], rfl, fun u hu => by simp only [List.mem_singleton] at hu; subst hu; rfl⟩
/-- The words of the example. -/
def exSee : Wd := ⟨[115, 101, 101], [], 0, 0⟩
def exSm1 : Wd := ⟨[83, 109, 105, 116, 104], [115, 109, 105, 116, 104], 1, 1⟩
def exAnd : Wd := ⟨[97, 110, 100], [], 0, 0⟩
def exSm : Wd := ⟨[83, 109, 105, 116, 104], [115, 109, 105, 116, 104], 1, 0⟩
def exJo : Wd := ⟨[74, 111, 110, 101, 115], [106, 111, 110, 101, 115], 1, 0⟩
def exT : Tx := ⟨[[exSee, exSm1], [exAnd, exSm, exJo]], [[exSm]]⟩
def ex0 : Bk := ⟨500, 10, []⟩
def exB : Bk := addP ex0 0 0 exT
theorem exOk : ∀ w ∈ [exSee, exSm1, exAnd, exSm, exJo], OkW w := by unfold OkW; decide
theorem exT_ok : OkT exT := by
  refine ⟨⟨?_, ?_⟩, by decide, by decide, by decide, ?_, by decide⟩
  · decide
  · intro p hp w hw
    simp only [exT, List.mem_cons, List.not_mem_nil, or_false] at hp
    rcases hp with rfl | rfl <;> exact exOk w (by revert hw; simp only [List.mem_cons, List.not_mem_nil, or_false]; rintro (h | h) <;> simp [h])
  · intro p hp w hw
    simp only [exT, List.mem_cons, List.not_mem_nil, or_false] at hp
    subst hp
    simp only [List.mem_cons, List.not_mem_nil, or_false] at hw
    subst hw
    exact ⟨exOk exSm (by simp), rfl⟩
theorem ex0_ok : OkB ex0 0 1 := ⟨by decide, by decide, by decide, by decide, by decide, fun x hx => (by cases hx), fun x hx => (by cases hx), .nil⟩
theorem exB_ok : OkB exB 1 1 := ex0_ok.add (by omega) 0 exT_ok fun y hy => by cases hy
theorem ex_add : addE ex0 0 0 exT = 0 := by decide +kernel
def exPl (l : Int) : Ct := ⟨3, 1, 0, l⟩
def exWant : Tb := [([106, 111, 110, 101, 115], [exPl 2]), ([115, 109, 105, 116, 104], [exPl 1, exPl 2, exPl 3])]
def exSealed : Tb := [([106, 111, 110, 101, 115], [exPl 2]), ([115, 109, 105, 116, 104], [exPl 2, exPl 3])]
def exSeal : Sea := ⟨0, 0, 1, 2, 4⟩
theorem ex_items : itemsB 3 1 [] exB = exWant ∧ itemsB 3 1 [exSeal] exB = exSealed ∧ itemsB 3 0 [] exB = [] := by decide +kernel
theorem ex_find : findP exWant [106, 111, 110, 101, 115] = some [exPl 2] ∧ findP exWant [74, 111, 110, 101, 115] = none ∧ mrgP exWant exSealed = exWant := by decide +kernel
set_option maxRecDepth 100000 in
theorem word31_any (s key : List UInt8) (nt : Int) (w : World) (n : Nat) (hn : key.length = n) : Calls Tryz.prog 121 #[.string ⟨s.toArray⟩, .string ⟨key.toArray⟩, .int .i64 nt] w fun e w' => e = .returned (.agg #[.string ⟨s.toArray⟩, .string ⟨key.toArray⟩, .int .i64 (min (n : Int) 1), .int .i64 nt]) ∧ Ext w w' := by
  have hx : Ext w (w.alloc (.cells #[.string ⟨s.toArray⟩, .string ⟨key.toArray⟩, .int .i64 (min (n : Int) 1), .int .i64 nt] 60)) := (Ext.refl w).alloc _
  have HX := Lib.hid hx
  obtain ⟨m, hm⟩ : ∃ m, min (n : Int) 1 = m := ⟨_, rfl⟩
  have hsz : (⟨key.toArray⟩ : ByteArray).size = n := by rw [← hn]; simp [ByteArray.size]
  clear hx
  go_enter Tryz.func121, Tryz.ntmps121
  go_wp2_with fail
  obtain ⟨Y, hY⟩ : ∃ Y, w.alloc (.cells #[.string ⟨s.toArray⟩, .string ⟨key.toArray⟩, .int .i64 m, .int .i64 nt] 60) = Y := ⟨_, rfl⟩
  have hB : Y.heap[w.heap.size]? = some (.cells #[.string ⟨s.toArray⟩, .string ⟨key.toArray⟩, .int .i64 m, .int .i64 nt] 60 (0, 0)) := by rw [← hY]; exact heap_alloc_new _ _
  have h9 := HX.out
  rw [hm, hY] at h9
  rw [hY, hm]
  have q0 := cell_of hB (i := 0) rfl
  have q1 := cell_of hB (i := 1) rfl
  have q2 := cell_of hB (i := 2) rfl
  have q3 := cell_of hB (i := 3) rfl
  refine bodyPost_ret (v := .agg #[.string ⟨s.toArray⟩, .string ⟨key.toArray⟩, .int .i64 m, .int .i64 nt]) (by simp [results, Tryz.results121, go_sem, q0, q1, q2, q3]) rfl ?_
  exact ⟨rfl, h9⟩
theorem w31See (w : World) : Calls Tryz.prog 121 #[.string ⟨#[115, 101, 101]⟩, .string ⟨#[]⟩, .int .i64 0] w fun e w' => e = .returned (.agg #[.string ⟨#[115, 101, 101]⟩, .string ⟨#[]⟩, .int .i64 0, .int .i64 0]) ∧ Ext w w' := word31_any [115, 101, 101] [] 0 w 0 rfl
theorem w31Sm1 (w : World) : Calls Tryz.prog 121 #[.string ⟨#[83, 109, 105, 116, 104]⟩, .string ⟨#[115, 109, 105, 116, 104]⟩, .int .i64 1] w fun e w' => e = .returned (.agg #[.string ⟨#[83, 109, 105, 116, 104]⟩, .string ⟨#[115, 109, 105, 116, 104]⟩, .int .i64 1, .int .i64 1]) ∧ Ext w w' := word31_any [83, 109, 105, 116, 104] [115, 109, 105, 116, 104] 1 w 5 rfl
theorem w31And (w : World) : Calls Tryz.prog 121 #[.string ⟨#[97, 110, 100]⟩, .string ⟨#[]⟩, .int .i64 0] w fun e w' => e = .returned (.agg #[.string ⟨#[97, 110, 100]⟩, .string ⟨#[]⟩, .int .i64 0, .int .i64 0]) ∧ Ext w w' := word31_any [97, 110, 100] [] 0 w 0 rfl
theorem w31Sm (w : World) : Calls Tryz.prog 121 #[.string ⟨#[83, 109, 105, 116, 104]⟩, .string ⟨#[115, 109, 105, 116, 104]⟩, .int .i64 0] w fun e w' => e = .returned (.agg #[.string ⟨#[83, 109, 105, 116, 104]⟩, .string ⟨#[115, 109, 105, 116, 104]⟩, .int .i64 1, .int .i64 0]) ∧ Ext w w' := word31_any [83, 109, 105, 116, 104] [115, 109, 105, 116, 104] 0 w 5 rfl
theorem w31Jo (w : World) : Calls Tryz.prog 121 #[.string ⟨#[74, 111, 110, 101, 115]⟩, .string ⟨#[106, 111, 110, 101, 115]⟩, .int .i64 0] w fun e w' => e = .returned (.agg #[.string ⟨#[74, 111, 110, 101, 115]⟩, .string ⟨#[106, 111, 110, 101, 115]⟩, .int .i64 1, .int .i64 0]) ∧ Ext w w' := word31_any [74, 111, 110, 101, 115] [106, 111, 110, 101, 115] 0 w 5 rfl
set_option maxHeartbeats 4000000 in
set_option maxRecDepth 100000 in
theorem example31_any (w : World) (hL : EnvW w) : Calls Tryz.prog 63 #[] w fun e w' => ∃ A n c, e = .returned (.tuple #[.agg #[.int .i64 500, .int .i64 10, .slice A n c], .bool true]) ∧ n ≤ c ∧ kSe.row w' (fun _ => True) A n exB.secs ∧ Ext w w' := by
  obtain ⟨z0, hz0⟩ : ∃ z0, w.heap.size = z0 := ⟨_, rfl⟩
  obtain ⟨w0, hw0⟩ : ∃ w0, w.alloc (.cells #[.int .i64 0, .int .i64 0, .slice none 0 0] 27) = w0 := ⟨_, rfl⟩
  have hx0 : Ext w w0 := by rw [← hw0]; exact (Ext.refl w).alloc _
  have hB0 : w0.heap[z0]? = some (.cells #[.int .i64 0, .int .i64 0, .slice none 0 0] 27 (0, 0)) := by rw [← hw0, ← hz0]; exact heap_alloc_new _ _
  have HX0 := Lib.hid hx0
  have HB0 := Lib.hid hB0
  have HL := Lib.hid hL
  have HZ0 := Lib.hid hz0
  clear hx0 hB0 hL
  go_enter Tryz.func63, Tryz.ntmps63
  go_upto_region 1 with (fail)
  clear hw0 hz0
  go_wp2_with fail
  refine (w31See w0).mono ?_
  rintro e wa ⟨rfl, hxa⟩
  have HXA := Lib.hid hxa
  clear hxa
  go_wp2_with fail
  refine (w31Sm1 wa).mono ?_
  rintro e wb ⟨rfl, hxb⟩
  have HXB := Lib.hid (HXA.out.trans hxb)
  clear hxb
  obtain ⟨g1, hg1⟩ : ∃ g1, wb.heap.size = g1 := ⟨_, rfl⟩
  obtain ⟨w3, hw3⟩ : ∃ w3, wb.alloc (.cells #[.string ⟨#[115, 101, 101]⟩, .string ⟨#[]⟩, .int .i64 0, .int .i64 0, .string ⟨#[83, 109, 105, 116, 104]⟩, .string ⟨#[115, 109, 105, 116, 104]⟩, .int .i64 1, .int .i64 1] 60) = w3 := ⟨_, rfl⟩
  have hxw3 : Ext wb w3 := by rw [← hw3]; exact (Ext.refl wb).alloc _
  have hbw3 : w3.heap[g1]? = some (.cells #[.string ⟨#[115, 101, 101]⟩, .string ⟨#[]⟩, .int .i64 0, .int .i64 0, .string ⟨#[83, 109, 105, 116, 104]⟩, .string ⟨#[115, 109, 105, 116, 104]⟩, .int .i64 1, .int .i64 1] 60 (0, 0)) := by rw [← hw3, ← hg1]; exact heap_alloc_new _ _
  have HX3 := Lib.hid (HXB.out.trans hxw3)
  have HG1 := Lib.hid hbw3
  clear hxw3 hbw3
  go_wp2_with fail
  refine (w31And w3).mono ?_
  rintro e wc ⟨rfl, hxc⟩
  clear hg1 hw3
  go_wp2_with fail
  refine (w31Sm wc).mono ?_
  rintro e wd ⟨rfl, hxd⟩
  go_wp2_with fail
  refine (w31Jo wd).mono ?_
  rintro e we ⟨rfl, hxe⟩
  have HX3E := Lib.hid (hxc.trans (hxd.trans hxe))
  clear hxc hxd hxe
  obtain ⟨g2, hg2⟩ : ∃ g2, we.heap.size = g2 := ⟨_, rfl⟩
  obtain ⟨w4, hw4⟩ : ∃ w4, we.alloc (.cells #[.string ⟨#[97, 110, 100]⟩, .string ⟨#[]⟩, .int .i64 0, .int .i64 0, .string ⟨#[83, 109, 105, 116, 104]⟩, .string ⟨#[115, 109, 105, 116, 104]⟩, .int .i64 1, .int .i64 0, .string ⟨#[74, 111, 110, 101, 115]⟩, .string ⟨#[106, 111, 110, 101, 115]⟩, .int .i64 1, .int .i64 0] 60) = w4 := ⟨_, rfl⟩
  have hxw4 : Ext we w4 := by rw [← hw4]; exact (Ext.refl we).alloc _
  have hbw4 : w4.heap[g2]? = some (.cells #[.string ⟨#[97, 110, 100]⟩, .string ⟨#[]⟩, .int .i64 0, .int .i64 0, .string ⟨#[83, 109, 105, 116, 104]⟩, .string ⟨#[115, 109, 105, 116, 104]⟩, .int .i64 1, .int .i64 0, .string ⟨#[74, 111, 110, 101, 115]⟩, .string ⟨#[106, 111, 110, 101, 115]⟩, .int .i64 1, .int .i64 0] 60 (0, 0)) := by rw [← hw4, ← hg2]; exact heap_alloc_new _ _
  obtain ⟨g3, hg3⟩ : ∃ g3, w4.heap.size = g3 := ⟨_, rfl⟩
  obtain ⟨w5, hw5⟩ : ∃ w5, w4.alloc (.cells #[.slice (some ⟨g1, 0, none⟩) 2 2, .slice (some ⟨g2, 0, none⟩) 3 3] 54) = w5 := ⟨_, rfl⟩
  have hxw5 : Ext w4 w5 := by rw [← hw5]; exact (Ext.refl w4).alloc _
  have hbw5 : w5.heap[g3]? = some (.cells #[.slice (some ⟨g1, 0, none⟩) 2 2, .slice (some ⟨g2, 0, none⟩) 3 3] 54 (0, 0)) := by rw [← hw5, ← hg3]; exact heap_alloc_new _ _
  have HX35 := Lib.hid (HX3E.out.trans (hxw4.trans hxw5))
  have HG2 := Lib.hid ((hxw5.block _ (lt_of_block hbw4)).trans hbw4)
  have HG3 := Lib.hid hbw5
  clear hxw4 hxw5 hbw4 hbw5
  go_wp2_with fail
  refine (w31Sm w5).mono ?_
  rintro e wf ⟨rfl, hxf⟩
  have HX5F := Lib.hid hxf
  clear hxf hg2 hw4 hg3 hw5
  obtain ⟨g4, hg4⟩ : ∃ g4, wf.heap.size = g4 := ⟨_, rfl⟩
  obtain ⟨w6, hw6⟩ : ∃ w6, wf.alloc (.cells #[.string ⟨#[83, 109, 105, 116, 104]⟩, .string ⟨#[115, 109, 105, 116, 104]⟩, .int .i64 1, .int .i64 0] 60) = w6 := ⟨_, rfl⟩
  have hxw6 : Ext wf w6 := by rw [← hw6]; exact (Ext.refl wf).alloc _
  have hbw6 : w6.heap[g4]? = some (.cells #[.string ⟨#[83, 109, 105, 116, 104]⟩, .string ⟨#[115, 109, 105, 116, 104]⟩, .int .i64 1, .int .i64 0] 60 (0, 0)) := by rw [← hw6, ← hg4]; exact heap_alloc_new _ _
  obtain ⟨g5, hg5⟩ : ∃ g5, w6.heap.size = g5 := ⟨_, rfl⟩
  obtain ⟨w7, hw7⟩ : ∃ w7, w6.alloc (.cells #[.slice (some ⟨g4, 0, none⟩) 1 1] 54) = w7 := ⟨_, rfl⟩
  have hxw7 : Ext w6 w7 := by rw [← hw7]; exact (Ext.refl w6).alloc _
  have hbw7 : w7.heap[g5]? = some (.cells #[.slice (some ⟨g4, 0, none⟩) 1 1] 54 (0, 0)) := by rw [← hw7, ← hg5]; exact heap_alloc_new _ _
  obtain ⟨z2, hz2⟩ : ∃ z2, w7.heap.size = z2 := ⟨_, rfl⟩
  obtain ⟨w8, hw8⟩ : ∃ w8, w7.alloc (.cells #[.slice (some ⟨g3, 0, none⟩) 2 2, .slice (some ⟨g5, 0, none⟩) 1 1] 53) = w8 := ⟨_, rfl⟩
  have hxw8 : Ext w7 w8 := by rw [← hw8]; exact (Ext.refl w7).alloc _
  have hbw8 : w8.heap[z2]? = some (.cells #[.slice (some ⟨g3, 0, none⟩) 2 2, .slice (some ⟨g5, 0, none⟩) 1 1] 53 (0, 0)) := by rw [← hw8, ← hz2]; exact heap_alloc_new _ _
  have hx58 : Ext w5 w8 := HX5F.out.trans (hxw6.trans (hxw7.trans hxw8))
  have h1 := ((HX35.out.trans hx58).block _ (lt_of_block HG1.out)).trans HG1.out
  have h2 := (hx58.block _ (lt_of_block HG2.out)).trans HG2.out
  have h3 := (hx58.block _ (lt_of_block HG3.out)).trans HG3.out
  have h4 := ((hxw7.trans hxw8).block _ (lt_of_block hbw6)).trans hbw6
  have h5 := (hxw8.block _ (lt_of_block hbw7)).trans hbw7
  have r1 : kWd.row w8 (fun _ => True) (some ⟨g1, 0, none⟩) 2 [exSee, exSm1] := wd_block (W := w8) [exSee, exSm1] h1 rfl trivial
  have r2 : kWd.row w8 (fun _ => True) (some ⟨g2, 0, none⟩) 3 [exAnd, exSm, exJo] := wd_block (W := w8) [exAnd, exSm, exJo] h2 rfl trivial
  have r4 : kWd.row w8 (fun _ => True) (some ⟨g4, 0, none⟩) 1 [exSm] := wd_block (W := w8) [exSm] h4 rfl trivial
  have r3 : kWs.row w8 (fun _ => True) (some ⟨g3, 0, none⟩) 2 exT.paras := row_block (k := kWs) (ds := [slC (some ⟨g1, 0, none⟩) 2 2, slC (some ⟨g2, 0, none⟩) 3 3]) (xs := exT.paras) h3 rfl rfl trivial fun i d x hd hx => by
    match i with
    | 0 =>
      simp only [List.getElem?_cons_zero, Option.some.injEq, exT] at hd hx
      subst hd hx
      exact kWs_rep.2 ⟨_, 2, rfl, Nat.le_refl _, r1⟩
    | 1 =>
      simp only [List.getElem?_cons_succ, List.getElem?_cons_zero, Option.some.injEq, exT] at hd hx
      subst hd hx
      exact kWs_rep.2 ⟨_, 3, rfl, Nat.le_refl _, r2⟩
    | i + 2 => simp at hd
  have r5 : kWs.row w8 (fun _ => True) (some ⟨g5, 0, none⟩) 1 exT.notes := row_block (k := kWs) (ds := [slC (some ⟨g4, 0, none⟩) 1 1]) (xs := exT.notes) h5 rfl rfl trivial fun i d x hd hx => by
    match i with
    | 0 =>
      simp only [List.getElem?_cons_zero, Option.some.injEq, exT] at hd hx
      subst hd hx
      exact kWs_rep.2 ⟨_, 1, rfl, Nat.le_refl _, r4⟩
    | i + 1 => simp at hd
  have HX08 := Lib.hid ((HX3.out.trans HX35.out).trans hx58)
  have HADD := Lib.hid (add_any (fun _ => True) (fun _ => True) w8 ex0 0 0 exT none (some ⟨g3, 0, none⟩) (some ⟨g5, 0, none⟩) 0 0 2 2 1 1 (ex0_ok.bkI (by omega) (by omega) (by omega)) (by decide) (fun _ => exB_ok.bkI (by omega) (by omega) (by omega)) exT_ok (Lay.row_nil _ _ _) r3 r5 (HL.out.ext (HX0.out.trans HX08.out)))
  rw [ex_add] at HADD
  have e0 := cell_of hbw8 (i := 0) rfl
  have e1 := cell_of hbw8 (i := 1) rfl
  clear hx58 h1 h2 h3 h4 h5 r1 r2 r3 r4 r5 hxw6 hxw7 hxw8 hbw6 hbw7 hbw8
  have HAD := Lib.hid (show Calls Tryz.prog 37 #[.agg #[.int .i64 500, .int .i64 10, .slice none 0 0], .int .i64 0, .int .i64 0, .agg #[.slice (some ⟨g3, 0, none⟩) 2 2, .slice (some ⟨g5, 0, none⟩) 1 1]] w8 (OpPost w8 0 500 10 exB.secs) from HADD.out)
  clear HADD
  go_upto_region 3 with (first | (go_at_call 37; refine (HAD.out).mono ?_; rintro e wg ⟨hxg, hres⟩; rcases hres with ⟨hne, _⟩ | ⟨_, A9, n9, c9, rfl, hnc9, hr9⟩; exact absurd rfl hne; have HXG := Lib.hid hxg; have HR9 := Lib.hid hr9; clear hxg hr9))
  obtain ⟨z3, hz3⟩ : ∃ z3, wg.heap.size = z3 := ⟨_, rfl⟩
  obtain ⟨w9, hw9⟩ : ∃ w9, wg.alloc (.cells #[.int .i64 500, .int .i64 10, .slice A9 n9 c9] 27) = w9 := ⟨_, rfl⟩
  have hx9 : Ext wg w9 := by rw [← hw9]; exact (Ext.refl wg).alloc _
  have hb9 : w9.heap[z3]? = some (.cells #[.int .i64 500, .int .i64 10, .slice A9 n9 c9] 27 (0, 0)) := by rw [← hw9, ← hz3]; exact heap_alloc_new _ _
  rw [hw9, hz3]
  have hx09 := HX08.out.trans (HXG.out.trans hx9)
  have hB09 := (hx09.block _ (lt_of_block HB0.out)).trans HB0.out
  have HX09 := Lib.hid (HX0.out.trans hx09)
  have HR10 := Lib.hid (Lay.row_ext HR9.out hx9)
  have d0 := cell_of hb9 (i := 0) rfl
  have d1 := cell_of hb9 (i := 1) rfl
  have d2 := cell_of hb9 (i := 2) rfl
  have k0 := cell_of hB09 (i := 0) rfl
  have k1 := cell_of hB09 (i := 1) rfl
  have k2 := cell_of hB09 (i := 2) rfl
  have f0 := frozen_of hB09 0
  have f1 := frozen_of hB09 1
  have f2 := frozen_of hB09 2
  have HB09 := Lib.hid hB09
  clear hx9 hb9 hx09 hB09 hw9 hz3 e0 e1 hg4 hw6 hg5 hw7 hz2 hw8
  go_wp2_with fail
  obtain ⟨Y, hY⟩ : ∃ Y, ((w9.setCell ⟨z0, 0, none⟩ (.int .i64 500)).setCell ⟨z0, 1, none⟩ (.int .i64 10)).setCell ⟨z0, 2, none⟩ (.slice A9 n9 c9) = Y := ⟨_, rfl⟩
  have hb : (((w9.setCell ⟨z0, 0, none⟩ (.int .i64 500)).setCell ⟨z0, 1, none⟩ (.int .i64 10)).setCell ⟨z0, 2, none⟩ (.slice A9 n9 c9)).heap[z0]? = some (.cells #[.int .i64 500, .int .i64 10, .slice A9 n9 c9] 27 (0, 0)) := heap_setCell_same _ z0 2 _ 27 _ (heap_setCell_same _ z0 1 _ 27 _ (heap_setCell_same _ z0 0 _ 27 _ HB09.out))
  have hz : w.heap.size ≤ z0 := by rw [HZ0.out]; exact Nat.le_refl _
  have hxY : Ext w (((w9.setCell ⟨z0, 0, none⟩ (.int .i64 500)).setCell ⟨z0, 1, none⟩ (.int .i64 10)).setCell ⟨z0, 2, none⟩ (.slice A9 n9 c9)) := ((HX09.out.setCell (p := ⟨z0, 0, none⟩) hz _).setCell (p := ⟨z0, 1, none⟩) hz _).setCell (p := ⟨z0, 2, none⟩) hz _
  have hrY : kSe.row (((w9.setCell ⟨z0, 0, none⟩ (.int .i64 500)).setCell ⟨z0, 1, none⟩ (.int .i64 10)).setCell ⟨z0, 2, none⟩ (.slice A9 n9 c9)) (fun _ => True) A9 n9 exB.secs := Lay.row_mono (Lay.row_keep HR10.out (by simp) fun j hj _ => by
    have hne : j ≠ z0 := by have := HX08.out.lt; have := lt_of_block HB0.out; omega
    rw [heap_setCell_other _ ⟨z0, 2, none⟩ j _ hne, heap_setCell_other _ ⟨z0, 1, none⟩ j _ hne, heap_setCell_other _ ⟨z0, 0, none⟩ j _ hne]) fun _ _ _ => trivial
  rw [hY] at hb hxY hrY ⊢
  have q0 := cell_of hb (i := 0) rfl
  have q1 := cell_of hb (i := 1) rfl
  have q2 := cell_of hb (i := 2) rfl
  refine bodyPost_ret (v := .tuple #[.agg #[.int .i64 500, .int .i64 10, .slice A9 n9 c9], .bool true]) (by simp [results, Tryz.results63, go_sem, q0, q1, q2]) rfl ?_
  exact ⟨A9, n9, c9, rfl, hnc9, hrY, hxY⟩
end Go.Proofs.YtdbnddmncbjobaaGreatDoor

/- The examples of the chapter hold: walked. -/
namespace Go.Proofs.YtdbnddmncbjobaaGreatDoor
open Go Go.RowKit
attribute [local go_sem] Oper.semAt_some

set_option maxRecDepth 100000 in
theorem at31_any (l : Int) (w : World) : Calls Tryz.prog 64 #[.int .i64 l] w fun e w' => e = .returned (.agg #[.int .i64 3, .int .i64 1, .int .i64 0, .int .i64 l]) ∧ Ext w w' := by
  have hx : Ext w (w.alloc (.cells #[.int .i64 3, .int .i64 1, .int .i64 0, .int .i64 l] 69)) := (Ext.refl w).alloc _
  have HX := Lib.hid hx
  clear hx
  go_enter Tryz.func64, Tryz.ntmps64
  go_wp2_with fail
  obtain ⟨Y, hY⟩ : ∃ Y, w.alloc (.cells #[.int .i64 3, .int .i64 1, .int .i64 0, .int .i64 l] 69) = Y := ⟨_, rfl⟩
  have hB : Y.heap[w.heap.size]? = some (.cells #[.int .i64 3, .int .i64 1, .int .i64 0, .int .i64 l] 69 (0, 0)) := by rw [← hY]; exact heap_alloc_new _ _
  have h9 := HX.out
  rw [hY] at h9
  rw [hY]
  have q0 := cell_of hB (i := 0) rfl
  have q1 := cell_of hB (i := 1) rfl
  have q2 := cell_of hB (i := 2) rfl
  have q3 := cell_of hB (i := 3) rfl
  refine bodyPost_ret (v := .agg #[.int .i64 3, .int .i64 1, .int .i64 0, .int .i64 l]) (by simp [results, Tryz.results64, go_sem, q0, q1, q2, q3]) rfl ?_
  exact ⟨rfl, h9⟩
theorem ct_block {W : World} {P : Nat → Prop} {g : Nat} {T : TypeId} {cur : Array Value} (xs : List Ct) (hb : W.heap[g]? = some (.cells cur T (0, 0))) (hc : cur.toList = gcells ccf (xs.map ctC)) (hP : P g) : kCt.row W P (some ⟨g, 0, none⟩) xs.length xs :=
  row_block hb hc (by simp) hP fun i d x hd hx => by
    rw [List.getElem?_map, hx] at hd
    obtain rfl := Option.some.inj hd
    exact kCt_rep.2 rfl
def itC (x : ItV) : Cs kIt.sz := ⟨itCs x, rfl, itCs_one x⟩
theorem it2_block {W : World} {g : Nat} {T : TypeId} {k1 k2 : List UInt8} {A1 A2 : Option Addr} {n1 n2 : Nat} {l1 l2 : List Ct} (hb : W.heap[g]? = some (.cells #[.string ⟨k1.toArray⟩, .slice A1 n1 n1, .string ⟨k2.toArray⟩, .slice A2 n2 n2] T (0, 0))) (r1 : kCt.row W (fun _ => True) A1 n1 l1) (r2 : kCt.row W (fun _ => True) A2 n2 l2) : kIt.row W (fun _ => True) (some ⟨g, 0, none⟩) 2 [(k1, l1), (k2, l2)] :=
  row_block (k := kIt) (ds := [itC (k1, A1, n1, n1), itC (k2, A2, n2, n2)]) (xs := [(k1, l1), (k2, l2)]) hb rfl rfl trivial fun i d x hd hx => by
    match i with
    | 0 =>
      simp only [List.getElem?_cons_zero, Option.some.injEq] at hd hx
      subst hd hx
      exact kIt_rep.2 ⟨A1, n1, n1, rfl, Nat.le_refl _, r1⟩
    | 1 =>
      simp only [List.getElem?_cons_succ, List.getElem?_cons_zero, Option.some.injEq] at hd hx
      subst hd hx
      exact kIt_rep.2 ⟨A2, n2, n2, rfl, Nat.le_refl _, r2⟩
    | i + 2 => simp at hd
def seaC (x : Sea) : Cs kSea.sz := ⟨seaCs x, rfl, fun u hu => by simp only [seaCs, List.mem_cons, List.not_mem_nil, or_false] at hu; rcases hu with rfl | rfl | rfl | rfl | rfl <;> rfl⟩
theorem seaC_row {W : World} {g : Nat} (hb : W.heap[g]? = some (.cells #[.int .i64 0, .int .i64 0, .int .i64 1, .int .i64 2, .int .i64 4] 48 (0, 0))) : kSea.row W (fun _ => True) (some ⟨g, 0, none⟩) 1 [exSeal] :=
  row_block (k := kSea) (ds := [seaC exSeal]) (xs := [exSeal]) hb rfl rfl trivial fun i d x hd hx => by
    match i with
    | 0 =>
      simp only [List.getElem?_cons_zero, Option.some.injEq] at hd hx
      subst hd hx
      rfl
    | i + 1 => simp at hd
theorem ex_len : (hits 3 1 [] exB).length ≤ 10 ∧ (hits 3 1 [exSeal] exB).length ≤ 10 ∧ (hits 3 0 [] exB).length ≤ 10 := by decide +kernel
/-- Items at the example. -/
theorem ex_run (w : World) (hL : EnvW w) (A : Option Addr) (n c : Nat) (hr : kSe.row w (fun _ => True) A n exB.secs) (tb : Int) (ls : List Sea) (A2 : Option Addr) (n2 c2 : Nat) (hsl : kSea.row w (fun _ => True) A2 n2 ls) (hgr : ∀ s ∈ ls, 0 ≤ s.gr ∧ s.gr ≤ 15) (hn2 : n2 ≤ 10) (T : Tb) (hT : itemsB 3 tb ls exB = T) (hl : (hits 3 tb ls exB).length ≤ 10) :
    Calls Tryz.prog 19 #[.agg #[.int .i64 500, .int .i64 10, .slice A n c], .int .i64 3, .int .i64 tb, .slice A2 n2 c2] w fun e w' => ∃ A1 n1 c1, e = .returned (.slice A1 n1 c1) ∧ TbV w' A1 n1 c1 T 10 ∧ Ext w w' := by
  refine (iitems_any (fun _ => True) (fun _ => True) w exB 1 1 3 tb ls A A2 n c n2 c2 exB_ok (by omega) (by omega) (by omega) hr hsl (by omega) hgr hL).mono ?_
  rintro e w' ⟨A1, n1, c1, rfl, h1, h2⟩
  refine ⟨A1, n1, c1, rfl, ?_, h2⟩
  rw [← hT]
  exact TbV.mono h1 hl
set_option maxHeartbeats 8000000 in
set_option maxRecDepth 100000 in
theorem lives31_any (w : World) (hL : EnvW w) : Calls Tryz.prog 21 #[] w fun e w' => e = .returned (.bool true) ∧ Ext w w' := by
  have HL := Lib.hid hL
  have HEX := Lib.hid (example31_any w hL)
  clear hL
  go_enter Tryz.func21, Tryz.ntmps21
  go_wp2_with fail
  refine (HEX.out).mono ?_
  rintro e wa ⟨A, n, c, rfl, hnc, hr, hxa⟩
  clear HEX
  obtain ⟨z1, hz1⟩ : ∃ z1, wa.heap.size = z1 := ⟨_, rfl⟩
  obtain ⟨w1, hw1⟩ : ∃ w1, wa.alloc (.cells #[.int .i64 500, .int .i64 10, .slice A n c] 27) = w1 := ⟨_, rfl⟩
  have hxw1 : Ext wa w1 := by rw [← hw1]; exact (Ext.refl wa).alloc _
  have hbw1 : w1.heap[z1]? = some (.cells #[.int .i64 500, .int .i64 10, .slice A n c] 27 (0, 0)) := by rw [← hw1, ← hz1]; exact heap_alloc_new _ _
  have HX1 := Lib.hid (hxa.trans hxw1)
  have HB1 := Lib.hid hbw1
  have HR1 := Lib.hid (Lay.row_ext hr hxw1)
  have HZC := Lib.hid (fun X (hX : Ext w1 X) => (show X.cell? ⟨z1, 0, none⟩ = some (.int .i64 500) ∧ X.cell? ⟨z1, 1, none⟩ = some (.int .i64 10) ∧ X.cell? ⟨z1, 2, none⟩ = some (.slice A n c) from
    have h9 := (hX.block _ (lt_of_block hbw1)).trans hbw1
    ⟨cell_of h9 (i := 0) rfl, cell_of h9 (i := 1) rfl, cell_of h9 (i := 2) rfl⟩))
  have HRUN := Lib.hid (fun X (hX : Ext w1 X) => ex_run X (HL.out.ext (HX1.out.trans hX)) A n c (Lay.row_ext HR1.out hX))
  obtain ⟨d0, d1, d2⟩ := HZC.out w1 (Ext.refl _)
  clear hxa hxw1 hbw1 hr
  go_wp2_with fail
  refine (HRUN.out w1 (Ext.refl _) 1 [] none 0 0 (Lay.row_nil _ _ _) (fun s hs => by cases hs) (by omega) exWant ex_items.1 ex_len.1).mono ?_
  rintro e w2 ⟨A1, n1, c1, rfl, hT1, hx2⟩
  have HT1 := Lib.hid hT1
  have HX2 := Lib.hid hx2
  clear hT1 hx2 d0 d1 d2 hz1 hw1
  obtain ⟨d0, d1, d2⟩ := HZC.out w2 HX2.out
  obtain ⟨g1, hg1⟩ : ∃ g1, w2.heap.size = g1 := ⟨_, rfl⟩
  obtain ⟨w3, hw3⟩ : ∃ w3, w2.alloc (.cells #[.int .i64 0, .int .i64 0, .int .i64 1, .int .i64 2, .int .i64 4] 48) = w3 := ⟨_, rfl⟩
  have hxw3 : Ext w2 w3 := by rw [← hw3]; exact (Ext.refl w2).alloc _
  have hbw3 : w3.heap[g1]? = some (.cells #[.int .i64 0, .int .i64 0, .int .i64 1, .int .i64 2, .int .i64 4] 48 (0, 0)) := by rw [← hw3, ← hg1]; exact heap_alloc_new _ _
  have HX3 := Lib.hid (HX2.out.trans hxw3)
  have HS3 := Lib.hid (seaC_row hbw3)
  have HXW3 := Lib.hid hxw3
  clear hxw3 hbw3
  go_wp2_with fail
  refine (HRUN.out w3 HX3.out 1 [exSeal] (some ⟨g1, 0, none⟩) 1 1 HS3.out (fun s hs => by simp only [List.mem_singleton] at hs; subst hs; decide) (by omega) exSealed ex_items.2.1 ex_len.2.1).mono ?_
  rintro e w4 ⟨A2, n2, c2, rfl, hT2, hx4⟩
  have HT2 := Lib.hid hT2
  have HX24 := Lib.hid (HXW3.out.trans hx4)
  clear hT2 hx4 d0 d1 d2 hg1 hw3
  go_wp2_with fail
  refine (ifind_any w4 exWant [106, 111, 110, 101, 115] A1 n1 c1 10 (HT1.out.ext HX24.out) (by omega)).mono ?_
  rintro e w5 ⟨A3, n3, c3, rfl, hnc3, hr3, hx5⟩
  rw [show findP exWant [106, 111, 110, 101, 115] = some [exPl 2] from ex_find.1]
  rw [show plc exWant [106, 111, 110, 101, 115] = [exPl 2] by unfold plc; rw [ex_find.1]; rfl] at hr3
  have HR3 := Lib.hid hr3
  have HX45 := Lib.hid hx5
  clear hr3 hx5
  simp only [Option.isSome_some]
  go_wp2_with fail
  refine (ifind_any w5 exWant [74, 111, 110, 101, 115] A1 n1 c1 10 (HT1.out.ext (HX24.out.trans HX45.out)) (by omega)).mono ?_
  rintro e w6 ⟨A4, n4, c4, rfl, hnc4, hr4, hx6⟩
  rw [show findP exWant [74, 111, 110, 101, 115] = none from ex_find.2.1]
  have HX56 := Lib.hid hx6
  clear hr4 hx6 hnc4
  simp only [Option.isSome_none]
  go_wp2_with fail
  refine (at31_any 2 w6).mono ?_
  rintro e wb ⟨rfl, hxb⟩
  obtain ⟨g2, hg2⟩ : ∃ g2, wb.heap.size = g2 := ⟨_, rfl⟩
  obtain ⟨w7, hw7⟩ : ∃ w7, wb.alloc (.cells #[.int .i64 3, .int .i64 1, .int .i64 0, .int .i64 2] 69) = w7 := ⟨_, rfl⟩
  have hxw7 : Ext wb w7 := by rw [← hw7]; exact (Ext.refl wb).alloc _
  have hbw7 : w7.heap[g2]? = some (.cells #[.int .i64 3, .int .i64 1, .int .i64 0, .int .i64 2] 69 (0, 0)) := by rw [← hw7, ← hg2]; exact heap_alloc_new _ _
  have HX67 := Lib.hid (hxb.trans hxw7)
  have HG2 := Lib.hid hbw7
  clear hxb hxw7 hbw7
  go_wp2_with fail
  refine (at31_any 1 w7).mono ?_
  rintro e wc ⟨rfl, hxc⟩
  clear hg2 hw7
  go_wp2_with fail
  refine (at31_any 2 wc).mono ?_
  rintro e wd ⟨rfl, hxd⟩
  go_wp2_with fail
  refine (at31_any 3 wd).mono ?_
  rintro e we ⟨rfl, hxe⟩
  obtain ⟨g3, hg3⟩ : ∃ g3, we.heap.size = g3 := ⟨_, rfl⟩
  obtain ⟨w8, hw8⟩ : ∃ w8, we.alloc (.cells #[.int .i64 3, .int .i64 1, .int .i64 0, .int .i64 1, .int .i64 3, .int .i64 1, .int .i64 0, .int .i64 2, .int .i64 3, .int .i64 1, .int .i64 0, .int .i64 3] 69) = w8 := ⟨_, rfl⟩
  have hxw8 : Ext we w8 := by rw [← hw8]; exact (Ext.refl we).alloc _
  have hbw8 : w8.heap[g3]? = some (.cells #[.int .i64 3, .int .i64 1, .int .i64 0, .int .i64 1, .int .i64 3, .int .i64 1, .int .i64 0, .int .i64 2, .int .i64 3, .int .i64 1, .int .i64 0, .int .i64 3] 69 (0, 0)) := by rw [← hw8, ← hg3]; exact heap_alloc_new _ _
  obtain ⟨g4, hg4⟩ : ∃ g4, w8.heap.size = g4 := ⟨_, rfl⟩
  obtain ⟨w9, hw9⟩ : ∃ w9, w8.alloc (.cells #[.string ⟨#[106, 111, 110, 101, 115]⟩, .slice (some ⟨g2, 0, none⟩) 1 1, .string ⟨#[115, 109, 105, 116, 104]⟩, .slice (some ⟨g3, 0, none⟩) 3 3] 99) = w9 := ⟨_, rfl⟩
  have hxw9 : Ext w8 w9 := by rw [← hw9]; exact (Ext.refl w8).alloc _
  have hbw9 : w9.heap[g4]? = some (.cells #[.string ⟨#[106, 111, 110, 101, 115]⟩, .slice (some ⟨g2, 0, none⟩) 1 1, .string ⟨#[115, 109, 105, 116, 104]⟩, .slice (some ⟨g3, 0, none⟩) 3 3] 99 (0, 0)) := by rw [← hw9, ← hg4]; exact heap_alloc_new _ _
  have hx79 : Ext w7 w9 := hxc.trans (hxd.trans (hxe.trans (hxw8.trans hxw9)))
  have HX79 := Lib.hid hx79
  have HW9 := Lib.hid (show kIt.row w9 (fun _ => True) (some ⟨g4, 0, none⟩) 2 exWant from it2_block hbw9 (ct_block (W := w9) [exPl 2] ((hx79.block _ (lt_of_block HG2.out)).trans HG2.out) rfl trivial) (ct_block (W := w9) [exPl 1, exPl 2, exPl 3] ((hxw9.block _ (lt_of_block hbw8)).trans hbw8) rfl trivial))
  clear hxc hxd hxe hxw8 hxw9 hbw8 hbw9 hx79
  go_wp2_with fail
  refine (at31_any 2 w9).mono ?_
  rintro e wf ⟨rfl, hxf⟩
  clear hg3 hw8 hg4 hw9
  obtain ⟨g5, hg5⟩ : ∃ g5, wf.heap.size = g5 := ⟨_, rfl⟩
  obtain ⟨w10, hw10⟩ : ∃ w10, wf.alloc (.cells #[.int .i64 3, .int .i64 1, .int .i64 0, .int .i64 2] 69) = w10 := ⟨_, rfl⟩
  have hxw10 : Ext wf w10 := by rw [← hw10]; exact (Ext.refl wf).alloc _
  have hbw10 : w10.heap[g5]? = some (.cells #[.int .i64 3, .int .i64 1, .int .i64 0, .int .i64 2] 69 (0, 0)) := by rw [← hw10, ← hg5]; exact heap_alloc_new _ _
  have HX910 := Lib.hid (hxf.trans hxw10)
  have HG5 := Lib.hid hbw10
  clear hxf hxw10 hbw10
  go_wp2_with fail
  refine (at31_any 2 w10).mono ?_
  rintro e wg ⟨rfl, hxg⟩
  clear hg5 hw10
  go_wp2_with fail
  refine (at31_any 3 wg).mono ?_
  rintro e wh ⟨rfl, hxh⟩
  obtain ⟨g6, hg6⟩ : ∃ g6, wh.heap.size = g6 := ⟨_, rfl⟩
  obtain ⟨w11, hw11⟩ : ∃ w11, wh.alloc (.cells #[.int .i64 3, .int .i64 1, .int .i64 0, .int .i64 2, .int .i64 3, .int .i64 1, .int .i64 0, .int .i64 3] 69) = w11 := ⟨_, rfl⟩
  have hxw11 : Ext wh w11 := by rw [← hw11]; exact (Ext.refl wh).alloc _
  have hbw11 : w11.heap[g6]? = some (.cells #[.int .i64 3, .int .i64 1, .int .i64 0, .int .i64 2, .int .i64 3, .int .i64 1, .int .i64 0, .int .i64 3] 69 (0, 0)) := by rw [← hw11, ← hg6]; exact heap_alloc_new _ _
  obtain ⟨g7, hg7⟩ : ∃ g7, w11.heap.size = g7 := ⟨_, rfl⟩
  obtain ⟨w12, hw12⟩ : ∃ w12, w11.alloc (.cells #[.string ⟨#[106, 111, 110, 101, 115]⟩, .slice (some ⟨g5, 0, none⟩) 1 1, .string ⟨#[115, 109, 105, 116, 104]⟩, .slice (some ⟨g6, 0, none⟩) 2 2] 99) = w12 := ⟨_, rfl⟩
  have hxw12 : Ext w11 w12 := by rw [← hw12]; exact (Ext.refl w11).alloc _
  have hbw12 : w12.heap[g7]? = some (.cells #[.string ⟨#[106, 111, 110, 101, 115]⟩, .slice (some ⟨g5, 0, none⟩) 1 1, .string ⟨#[115, 109, 105, 116, 104]⟩, .slice (some ⟨g6, 0, none⟩) 2 2] 99 (0, 0)) := by rw [← hw12, ← hg7]; exact heap_alloc_new _ _
  have hx1012 : Ext w10 w12 := hxg.trans (hxh.trans (hxw11.trans hxw12))
  have HW12 := Lib.hid (show kIt.row w12 (fun _ => True) (some ⟨g7, 0, none⟩) 2 exSealed from it2_block hbw12 (ct_block (W := w12) [exPl 2] ((hx1012.block _ (lt_of_block HG5.out)).trans HG5.out) rfl trivial) (ct_block (W := w12) [exPl 2, exPl 3] ((hxw12.block _ (lt_of_block hbw11)).trans hbw11) rfl trivial))
  have HX912 := Lib.hid (HX910.out.trans hx1012)
  have HX412 := Lib.hid (HX45.out.trans (HX56.out.trans (HX67.out.trans (HX79.out.trans HX912.out))))
  have HX212 := Lib.hid (HX24.out.trans HX412.out)
  clear hxg hxh hxw11 hxw12 hbw11 hbw12 hx1012
  have hmx : ∀ x ∈ exWant ++ exWant, x.2.length ≤ 100000000 := by decide
  have hms : ∀ x ∈ exSealed ++ exSealed, x.2.length ≤ 100000000 := by decide
  have HM1 := Lib.hid hmx
  have HM2 := Lib.hid hms
  clear hmx hms
  go_wp2_with fail
  refine (same_any _ _ w12 exWant exWant HM1.out A1 (some ⟨g4, 0, none⟩) n1 2 c1 2 (HT1.out.ext HX212.out).row (Lay.row_ext HW9.out HX912.out) (by have := HT1.out.n; omega) (by omega)).mono ?_
  rintro e wj ⟨rfl, qj, rfl⟩
  rw [show decide (exWant = exWant) = true from decide_eq_true rfl]
  clear hg6 hw11 hg7 hw12
  go_wp2_with fail
  refine (same_any _ _ (w12.drewN qj) exSealed exSealed HM2.out A2 (some ⟨g7, 0, none⟩) n2 2 c2 2 ((HT2.out.ext HX412.out).ext ((Ext.refl w12).drewN qj)).row (Lay.row_ext HW12.out ((Ext.refl w12).drewN qj)) (by have := HT2.out.n; omega) (by omega)).mono ?_
  rintro e wk ⟨rfl, qk, rfl⟩
  rw [show decide (exSealed = exSealed) = true from decide_eq_true rfl]
  have HXK := Lib.hid (show Ext w12 ((w12.drewN qj).drewN qk) from ((Ext.refl w12).drewN qj).drewN qk)
  obtain ⟨w13, hw13⟩ : ∃ w13, (w12.drewN qj).drewN qk = w13 := ⟨_, rfl⟩
  rw [hw13] at HXK ⊢
  clear hw13
  go_wp2_with fail
  refine (at31_any 2 w13).mono ?_
  rintro e wl ⟨rfl, hxl⟩
  obtain ⟨g8, hg8⟩ : ∃ g8, wl.heap.size = g8 := ⟨_, rfl⟩
  obtain ⟨w14, hw14⟩ : ∃ w14, wl.alloc (.cells #[.int .i64 3, .int .i64 1, .int .i64 0, .int .i64 2] 69) = w14 := ⟨_, rfl⟩
  have hxw14 : Ext wl w14 := by rw [← hw14]; exact (Ext.refl wl).alloc _
  have hbw14 : w14.heap[g8]? = some (.cells #[.int .i64 3, .int .i64 1, .int .i64 0, .int .i64 2] 69 (0, 0)) := by rw [← hw14, ← hg8]; exact heap_alloc_new _ _
  have HX14 := Lib.hid (HXK.out.trans (hxl.trans hxw14))
  have HR14 := Lib.hid (show kCt.row w14 (fun _ => True) (some ⟨g8, 0, none⟩) 1 [exPl 2] from ct_block (W := w14) [exPl 2] hbw14 rfl trivial)
  have HR3' := Lib.hid (Lay.row_ext HR3.out (HX56.out.trans (HX67.out.trans (HX79.out.trans (HX912.out.trans HX14.out)))))
  clear hxl hxw14 hbw14
  go_wp2_with fail
  refine (samec_any _ _ w14 [exPl 2] [exPl 2] A3 (some ⟨g8, 0, none⟩) n3 1 c3 1 HR3'.out HR14.out (by have := Lay.row_len HR3'.out; simp at this; omega) (by omega)).mono ?_
  rintro e wm ⟨rfl, qm, rfl⟩
  rw [show decide ([exPl 2] = [exPl 2]) = true from decide_eq_true rfl]
  clear hg8 hw14
  have HX15 := Lib.hid (HX212.out.trans (HX14.out.drewN qm))
  have HX415 := Lib.hid (HX412.out.trans (HX14.out.drewN qm))
  have HX915 := Lib.hid (HX912.out.trans (HX14.out.drewN qm))
  obtain ⟨w15, hw15⟩ : ∃ w15, w14.drewN qm = w15 := ⟨_, rfl⟩
  rw [hw15] at HX15 HX415 HX915 ⊢
  clear hw15
  obtain ⟨d0, d1, d2⟩ := HZC.out w15 (HX2.out.trans HX15.out)
  go_wp2_with fail
  refine (HRUN.out w15 (HX2.out.trans HX15.out) 0 [] none 0 0 (Lay.row_nil _ _ _) (fun s hs => by cases hs) (by omega) [] ex_items.2.2 ex_len.2.2).mono ?_
  rintro e w16 ⟨A5, n5, c5, rfl, hT5, hx16⟩
  obtain rfl : n5 = 0 := hT5.n.1
  have HX16 := Lib.hid hx16
  clear hT5 hx16 d0 d1 d2
  go_wp2_with fail
  refine (imerge_any w16 A1 A2 n1 n2 c1 c2 10 10 exWant exSealed (HT1.out.ext (HX15.out.trans HX16.out)) (HT2.out.ext (HX415.out.trans HX16.out)) (by omega)).mono ?_
  rintro e w17 ⟨A6, n6, c6, rfl, hT6, hx17⟩
  rw [ex_find.2.2] at hT6
  have HT6 := Lib.hid hT6
  have HX17 := Lib.hid (HX16.out.trans hx17)
  clear hT6 hx17
  go_wp2_with fail
  refine (same_any _ _ w17 exWant exWant HM1.out A6 (some ⟨g4, 0, none⟩) n6 2 c6 2 HT6.out.row (Lay.row_ext HW9.out (HX915.out.trans HX17.out)) (by have := HT6.out.n; omega) (by omega)).mono ?_
  rintro e wn ⟨rfl, qn, rfl⟩
  rw [show decide (exWant = exWant) = true from decide_eq_true rfl]
  go_wp2_with fail
  go_ret
  exact ⟨rfl, HX1.out.trans (HX2.out.trans (HX15.out.trans (HX17.out.drewN qn)))⟩
end Go.Proofs.YtdbnddmncbjobaaGreatDoor

/- The reference's Regular at a table: walked. -/
namespace Go.Proofs.YtdbnddmncbjobaaGreatDoor
open Go Go.RowKit
attribute [local go_sem] Oper.semAt_some

end Go.Proofs.YtdbnddmncbjobaaGreatDoor

/- The law IndexMerges: walked. -/
namespace Go.Proofs.YtdbnddmncbjobaaGreatDoor
open Go Go.RowKit
attribute [local go_sem] Oper.semAt_some

theorem TbV.big {W : World} {A : Option Addr} {n c : Nat} {T : Tb} {M : Nat} (h : TbV W A n c T M) (hM : M ≤ 100000000) : n ≤ 100000000 ∧ ∀ x ∈ T, x.2.length ≤ 100000000 :=
  ⟨by have := h.n.2.1; omega, fun x hx => by have := h.n.2.2 x hx; omega⟩
/-- Same at two tables in memory. -/
theorem same_tb {w : World} {A A' : Option Addr} {n n' c c' : Nat} {S T : Tb} {M M' : Nat} (h : TbV w A n c S M) (h' : TbV w A' n' c' T M') (hM : M ≤ 100000000) (hM' : M' ≤ 100000000) (r : Bool) (hr : decide (S = T) = r) :
    Calls Tryz.prog 18 #[.slice A n c, .slice A' n' c'] w fun e w' => e = .returned (.bool r) ∧ Ext w w' := by
  refine (same_any _ _ w S T (fun x hx => ?_) A A' n n' c c' h.row h'.row (h.big hM).1 (h'.big hM').1).mono ?_
  · rcases List.mem_append.1 hx with hx | hx
    · exact (h.big hM).2 x hx
    · exact (h'.big hM').2 x hx
  · rintro e w' ⟨rfl, q, rfl⟩
    exact ⟨by rw [hr], (Ext.refl w).drewN q⟩
end Go.Proofs.YtdbnddmncbjobaaGreatDoor

/- Hits of books that grow, of words and of places, in plain Lean. -/
namespace Go.Proofs.YtdbnddmncbjobaaGreatDoor

end Go.Proofs.YtdbnddmncbjobaaGreatDoor

/- The law IndexSeals: walked (printed by genzd.py). -/
namespace Go.Proofs.YtdbnddmncbjobaaGreatDoor
open Go Go.RowKit
attribute [local go_sem] Oper.semAt_some

theorem hi28 (A : Option Addr) (n c k : Nat) (hk : k ≤ n) (hn : n ≤ c) (hA : A = none → n = 0) (W : World) : (Instr.sliceAt 28 (.slice A n c) none (some (.int .i64 (k : Int))) none).run Tryz.prog W = .ok (.slice A k c) W := by
  have h1 : (k : Int) ≤ (c : Int) := by omega
  cases A with
  | none =>
    obtain rfl := hA rfl
    obtain rfl : k = 0 := by omega
    by_cases hc : c = 0
    · subst hc; go_simp
    · go_simp
  | some a =>
    by_cases hc : c = 0
    · subst hc
      obtain rfl : k = 0 := by omega
      go_simp
    · go_simp
/-- within, at a table that holds the other. -/
theorem within31_any (w : World) (A A' : Option Addr) (n n' c c' M M' : Nat) (S T : Tb) (hS : TbV w A n c S M) (hT : TbV w A' n' c' T M') (hM : M + M' ≤ 40000000) (hst : mrgP S T = T) :
    Calls Tryz.prog 28 #[.slice A n c, .slice A' n' c'] w fun e w' => e = .returned (.bool true) ∧ Ext w w' := by
  have HM := Lib.hid (rmerge_any w A A' n n' c c' M M' S T hS hT hM)
  rw [hst] at HM
  have HT := Lib.hid hT
  clear hS hT hst
  go_enter Tryz.func28, Tryz.ntmps28
  go_wp2_with fail
  refine (HM.out).mono ?_
  rintro e w1 ⟨A1, n1, c1, rfl, h1, hx1⟩
  have H1 := Lib.hid h1
  have HX := Lib.hid hx1
  clear h1 hx1 HM
  go_wp2_with fail
  refine (same_tb H1.out (HT.out.ext HX.out) (by omega) (by omega) true (decide_eq_true rfl)).mono ?_
  rintro e w2 ⟨rfl, hx2⟩
  have HX2 := Lib.hid hx2
  clear hx2
  go_wp2_with fail
  go_ret
  exact ⟨rfl, HX.out.trans HX2.out⟩
/-- Items at a book that was made. -/
theorem items_mk (w : World) (b : Bk) (br tb : Int) (ls : List Sea) (A A2 : Option Addr) (N c n2 c2 : Nat) (P Q : Nat → Prop) (hb : OkB b 4 3) (hr : kSe.row w P A N b.secs) (hs : kSea.row w Q A2 n2 ls) (hn : n2 ≤ 1000000) (hg : ∀ s ∈ ls, OkSea s) (hL : EnvW w) :
    Calls Tryz.prog 19 #[.agg #[.int .i64 b.ms, .int .i64 b.ht, .slice A N c], .int .i64 br, .int .i64 tb, .slice A2 n2 c2] w fun e w' => ∃ A1 n1 c1, e = .returned (.slice A1 n1 c1) ∧ TbV w' A1 n1 c1 (itemsB br tb ls b) 16000000 ∧ Ext w w' := by
  refine (iitems_any P Q w b 4 3 br tb ls A A2 N c n2 c2 hb (by omega) (by omega) (by omega) hr hs hn hg hL).mono ?_
  rintro e w' ⟨A1, n1, c1, rfl, h1, h2⟩
  exact ⟨A1, n1, c1, rfl, TbV.mono h1 (hits_len hb (by omega) br tb ls), h2⟩
/-- The seals on all words of the first i sections. -/
def AllS (l : List Se) (ls : List Sea) : Prop := ∀ x ∈ l, ∀ v ∈ x.vers, ∃ s ∈ ls, s.ent = x.ent ∧ s.ver = v ∧ s.fr = 0 ∧ s.un = 1048576
def AlR (w1 : World) (b : Bk) (s9 s10 : Value) (W : World) : Prop := ∃ (i : Nat) (out : Value) (ls : List Sea), i ≤ b.secs.length ∧ s10 = .int .i64 i ∧ out = s9 ∧ ls.length ≤ 3 * i ∧ AllS (b.secs.take i) ls ∧ (∀ s ∈ ls, s.gr = 0) ∧ kSea.own 48 W w1.heap.size (fun _ => True) out ls ∧ Ext w1 W
def AkR (w1 : World) (b : Bk) (i : Nat) (x : Se) (s9 s11 : Value) (W : World) : Prop := ∃ (k : Nat) (out : Value) (ls : List Sea), k ≤ x.vers.length ∧ s11 = .int .i64 k ∧ out = s9 ∧ ls.length ≤ 3 * i + k ∧ AllS (b.secs.take i) ls ∧ (∀ v ∈ x.vers.take k, ∃ s ∈ ls, s.ent = x.ent ∧ s.ver = v ∧ s.fr = 0 ∧ s.un = 1048576) ∧ (∀ s ∈ ls, s.gr = 0) ∧ kSea.own 48 W w1.heap.size (fun _ => True) out ls ∧ Ext w1 W
theorem all_add {l : List Se} {ls : List Sea} (h : AllS l ls) (s : Sea) : AllS l (ls ++ [s]) := fun x hx v hv => by
  obtain ⟨y, h1, h2⟩ := h x hx v hv
  exact ⟨y, List.mem_append_left _ h1, h2⟩
theorem all_next {b : Bk} {i : Nat} {x : Se} {ls : List Sea} (hx : b.secs[i]? = some x) (h : AllS (b.secs.take i) ls) (h2 : ∀ v ∈ x.vers, ∃ s ∈ ls, s.ent = x.ent ∧ s.ver = v ∧ s.fr = 0 ∧ s.un = 1048576) : AllS (b.secs.take (i + 1)) ls := fun y hy v hv => by
  rw [List.take_add_one, hx] at hy
  rcases List.mem_append.1 hy with h9 | h9
  · exact h y h9 v hv
  · simp only [Option.toList_some, List.mem_singleton] at h9
    subst h9; exact h2 v hv
set_option maxHeartbeats 8000000 in
set_option maxRecDepth 100000 in
theorem seals_law (A A' : Option Addr) (c c' : Nat) (l l' : List Int) (br tb many : Int) (w : World) (h : IL w A c l) (hl : l.length ≤ 9223372036854775807) (h' : IL w A' c' l') (hl' : l'.length ≤ 9223372036854775807)
    (htb : -9223372036854775808 ≤ tb ∧ tb ≤ 9223372036854775807) (hmy : -9223372036854775808 ≤ many ∧ many ≤ 9223372036854775807) (hL : EnvW w) :
    Calls Tryz.prog 5 #[.agg #[.slice A l.length c, .slice A' l'.length c', .int .i64 br, .int .i64 tb], .int .i64 many] w fun e w' => e = .returned (.bool true) ∧ Ext w w' := by
  have HLV := Lib.hid (fun X (hX : Ext w X) => lives31_any X (hL.ext hX))
  have HL := Lib.hid (fun X (hX : Ext w X) => hL.ext hX)
  have HMA := Lib.hid (fun X (hX : Ext w X) => made_any A A' c c' l l' br tb X (h.ext hX) hl (h'.ext hX) hl')
  have HTB := Lib.hid (fun X => around3_fn tb 2 X htb.1 htb.2 (by omega) (by omega))
  have HMY := Lib.hid (fun X (k : Int) (h1 : 1 ≤ k) (h2 : k ≤ 1000000000) => around3_fn many k X hmy.1 hmy.2 h1 h2)
  clear h h' hl hl' htb hmy hL
  obtain ⟨n1, hn1⟩ : ∃ n1, l.length = n1 := ⟨_, rfl⟩
  obtain ⟨n2, hn2⟩ : ∃ n2, l'.length = n2 := ⟨_, rfl⟩
  rw [hn1, hn2] at HMA ⊢
  clear hn1 hn2
  obtain ⟨t, ht⟩ : ∃ t, arnd tb 2 = t := ⟨_, rfl⟩
  rw [ht] at HTB
  clear ht
  obtain ⟨z, hz⟩ : ∃ z, w.heap.size = z := ⟨_, rfl⟩
  obtain ⟨w1, hw1⟩ : ∃ w1, w.alloc (.cells #[.slice A n1 c, .slice A' n2 c', .int .i64 br, .int .i64 tb] 24) = w1 := ⟨_, rfl⟩
  have hx1 : Ext w w1 := by rw [← hw1]; exact (Ext.refl w).alloc _
  have hB1 : w1.heap[z]? = some (.cells #[.slice A n1 c, .slice A' n2 c', .int .i64 br, .int .i64 tb] 24 (0, 0)) := by rw [← hw1, ← hz]; exact heap_alloc_new _ _
  have HX1 := Lib.hid hx1
  have HB1 := Lib.hid hB1
  have a0 := cell_of hB1 (i := 0) rfl
  have a1 := cell_of hB1 (i := 1) rfl
  have a2 := cell_of hB1 (i := 2) rfl
  have a3 := cell_of hB1 (i := 3) rfl
  clear hx1 hB1
  go_enter Tryz.func5, Tryz.ntmps5
  go_upto_region 1 with (fail)
  clear hw1 hz
  go_wp2_with fail
  refine (HMA.out _ HX1.out).mono ?_
  rintro e w2 ⟨b, B, N, cB, S, m, cS, ls, rfl, hok, hnc, hr, hmc, hrs, hlm, hgs, hx2⟩
  have HOK := Lib.hid hok.okB
  have HX2 := Lib.hid hx2
  have HM := Lib.hid (Lay.row_len hrs)
  have HMC := Lib.hid hmc
  have HLM := Lib.hid hlm
  have HGS := Lib.hid hgs
  have HSA := Lib.hid (fun e => row_A hrs e)
  obtain ⟨g, hg⟩ : ∃ g, w2.heap.size = g := ⟨_, rfl⟩
  obtain ⟨w3, hw3⟩ : ∃ w3, w2.alloc (.cells #[.int .i64 b.ms, .int .i64 b.ht, .slice B N cB] 27) = w3 := ⟨_, rfl⟩
  have hx23 : Ext w2 w3 := by rw [← hw3]; exact (Ext.refl w2).alloc _
  have hB3 : w3.heap[g]? = some (.cells #[.int .i64 b.ms, .int .i64 b.ht, .slice B N cB] 27 (0, 0)) := by rw [← hw3, ← hg]; exact heap_alloc_new _ _
  have HX3 := Lib.hid (hx2.trans hx23)
  have HB3 := Lib.hid hB3
  have HR := Lib.hid (fun X (hX : Ext w3 X) => Lay.row_ext hr (hx23.trans hX))
  have HRS := Lib.hid (fun X (hX : Ext w3 X) => Lay.row_ext hrs (hx23.trans hX))
  have HEV := Lib.hid (fun X (hX : Ext w3 X) => HL.out X (HX1.out.trans (HX3.out.trans hX)))
  have HQ := Lib.hid (fun X (hX : Ext w3 X) => (show (X.cell? ⟨z, 2, none⟩ = some (.int .i64 br) ∧ X.cell? ⟨z, 3, none⟩ = some (.int .i64 tb)) ∧ X.cell? ⟨g, 0, none⟩ = some (.int .i64 b.ms) ∧ X.cell? ⟨g, 1, none⟩ = some (.int .i64 b.ht) ∧ X.cell? ⟨g, 2, none⟩ = some (.slice B N cB) from
    have h9 := (hX.block _ (lt_of_block HB3.out)).trans HB3.out
    have h8 := ((HX3.out.trans hX).block _ (lt_of_block HB1.out)).trans HB1.out
    ⟨⟨cell_of h8 (i := 2) rfl, cell_of h8 (i := 3) rfl⟩, cell_of h9 (i := 0) rfl, cell_of h9 (i := 1) rfl, cell_of h9 (i := 2) rfl⟩))
  clear a0 a1 a2 a3 hx2 hx23 hB3 hr hrs hok hmc hlm hgs
  go_upto_region 2 with (fail)
  clear hw3 hg
  obtain ⟨q, hq, hqb⟩ := around_nat many (m + 1) (by omega)
  have hm8 : m ≤ 8 := by have := HM.out; have := HLM.out; omega
  have hwm : IntKind.i64.wrap ((m : Int) + 1) = (m : Int) + 1 := IntWalk.i64_in _ (by omega)
  have HMQ := Lib.hid (fun X => (show Calls Tryz.prog 17 #[.int .i64 many, .int .i64 ((m : Int) + 1)] X (fun e w' => e = .returned (.int .i64 (q : Int)) ∧ X = w') from by have h9 := HMY.out X ((m + 1 : Nat) : Int) (by omega) (by omega); rw [hq, show ((m + 1 : Nat) : Int) = (m : Int) + 1 by omega] at h9; exact h9))
  clear hq
  have hsl := fun W => hi28 S m cS q (by omega) HMC.out HSA.out W
  obtain ⟨⟨a2, a3⟩, p0, p1, p2⟩ := HQ.out _ (Ext.refl _)
  go_upto_region 3 with (first | (go_at_call 17; refine (HTB.out _).mono ?_; rintro e w9 ⟨rfl, rfl⟩))
  go_upto_region 4 with (first | (go_at_call 17; refine (HMQ.out _).mono ?_; rintro e w9 ⟨rfl, rfl⟩))
  clear hsl a2 a3 p0 p1 p2
  have HFW := Lib.hid (fun X (hX : Ext w3 X) => Lay.row_take (HRS.out X hX) q (by omega))
  have HI1 := Lib.hid (fun X (hX : Ext w3 X) => items_mk X b br t ls B S N cB m cS _ _ HOK.out (HR.out X hX) (HRS.out X hX) (by omega) HGS.out (HEV.out X hX))
  have HI2 := Lib.hid (fun X (hX : Ext w3 X) => items_mk X b br t (ls.take q) B S N cB q cS _ _ HOK.out (HR.out X hX) (HFW.out X hX) (by omega) (fun s hs => HGS.out s (List.mem_of_mem_take hs)) (HEV.out X hX))
  have HSUB := Lib.hid (show mrgP (itemsB br t ls b) (itemsB br t (ls.take q) b) = itemsB br t (ls.take q) b from items_sub fun k c hh => hit_seals (fun s hs => List.mem_of_mem_take hs) hh)
  have hcur : Ext w3 w3.drew := (Ext.refl _).drew
  go_cut [40] (fun s40 wx => s40 = .bool false ∧ Ext w3 wx)
  case first =>
    have hS0 : (fun X : World => (X.cell? ⟨z, 2, none⟩ = some (.int .i64 br) ∧ X.cell? ⟨z, 3, none⟩ = some (.int .i64 tb)) ∧ X.cell? ⟨g, 0, none⟩ = some (.int .i64 b.ms) ∧ X.cell? ⟨g, 1, none⟩ = some (.int .i64 b.ht) ∧ X.cell? ⟨g, 2, none⟩ = some (.slice B N cB)) w3.drew := HQ.out _ hcur
    refine wp_region_E (fun X : World => (X.cell? ⟨z, 2, none⟩ = some (.int .i64 br) ∧ X.cell? ⟨z, 3, none⟩ = some (.int .i64 tb)) ∧ X.cell? ⟨g, 0, none⟩ = some (.int .i64 b.ms) ∧ X.cell? ⟨g, 1, none⟩ = some (.int .i64 b.ht) ∧ X.cell? ⟨g, 2, none⟩ = some (.slice B N cB)) (fun _ => True) (fun i => i == 99) (by kernel_rfl) ?_
    refine wpE_takeS (i := 0) (d := some 27) (v := .agg #[.int .i64 b.ms, .int .i64 b.ht, .slice B N cB]) rfl rfl (by kernel_rfl) (by kernel_rfl) (by kernel_rfl) (by kernel_rfl) (fun _ _ _ h => h) (by rfl) ?hya1 hS0 trivial ?goa1
    case hya1 =>
      intro w9 hT9
      obtain ⟨⟨y0, y1⟩, y2, y3, y4⟩ := hT9; go_simp
    (try simp only [Act.put, List.setIfInBounds_toArray, List.set_cons_zero, List.set_cons_succ])
    refine wpE_takeS (i := 1) (d := some 28) (v := .pointer (some ⟨z, 2, none⟩)) rfl rfl (by kernel_rfl) (by kernel_rfl) (by kernel_rfl) (by kernel_rfl) (fun _ _ _ h => h) (by rfl) ?hya2 hS0 trivial ?goa2
    case hya2 =>
      intro w9 hT9
      clear hT9; go_simp
    (try simp only [Act.put, List.setIfInBounds_toArray, List.set_cons_zero, List.set_cons_succ])
    refine wpE_takeS (i := 2) (d := some 29) (v := .int .i64 br) rfl rfl (by kernel_rfl) (by kernel_rfl) (by kernel_rfl) (by kernel_rfl) (fun _ _ _ h => h) (by rfl) ?hya3 hS0 trivial ?goa3
    case hya3 =>
      intro w9 hT9
      obtain ⟨⟨y0, y1⟩, y2, y3, y4⟩ := hT9; go_simp
    (try simp only [Act.put, List.setIfInBounds_toArray, List.set_cons_zero, List.set_cons_succ])
    refine wpE_takeS (i := 3) (d := some 30) (v := .int .i64 t) rfl rfl (by kernel_rfl) (by kernel_rfl) (by kernel_rfl) (by kernel_rfl) (fun _ _ _ h => h) (by rfl) ?hya4 hS0 trivial ?goa4
    case hya4 =>
      intro w9 hT9
      clear hT9; go_simp
    (try simp only [Act.put, List.setIfInBounds_toArray, List.set_cons_zero, List.set_cons_succ])
    refine wpE_takeS (i := 4) (d := some 31) (v := .slice S m cS) rfl rfl (by kernel_rfl) (by kernel_rfl) (by kernel_rfl) (by kernel_rfl) (fun _ _ _ h => h) (by rfl) ?hya5 hS0 trivial ?goa5
    case hya5 =>
      intro w9 hT9
      clear hT9; go_simp
    (try simp only [Act.put, List.setIfInBounds_toArray, List.set_cons_zero, List.set_cons_succ])
    refine wpE_takeS (i := 6) (d := some 33) (v := .agg #[.int .i64 b.ms, .int .i64 b.ht, .slice B N cB]) rfl rfl (by kernel_rfl) (by kernel_rfl) (by kernel_rfl) (by kernel_rfl) (fun _ _ _ h => h) (by rfl) ?hya6 hS0 trivial ?goa6
    case hya6 =>
      intro w9 hT9
      obtain ⟨⟨y0, y1⟩, y2, y3, y4⟩ := hT9; go_simp
    (try simp only [Act.put, List.setIfInBounds_toArray, List.set_cons_zero, List.set_cons_succ])
    refine wpE_takeS (i := 7) (d := some 34) (v := .pointer (some ⟨z, 2, none⟩)) rfl rfl (by kernel_rfl) (by kernel_rfl) (by kernel_rfl) (by kernel_rfl) (fun _ _ _ h => h) (by rfl) ?hya7 hS0 trivial ?goa7
    case hya7 =>
      intro w9 hT9
      clear hT9; go_simp
    (try simp only [Act.put, List.setIfInBounds_toArray, List.set_cons_zero, List.set_cons_succ])
    refine wpE_takeS (i := 8) (d := some 35) (v := .int .i64 br) rfl rfl (by kernel_rfl) (by kernel_rfl) (by kernel_rfl) (by kernel_rfl) (fun _ _ _ h => h) (by rfl) ?hya8 hS0 trivial ?goa8
    case hya8 =>
      intro w9 hT9
      obtain ⟨⟨y0, y1⟩, y2, y3, y4⟩ := hT9; go_simp
    (try simp only [Act.put, List.setIfInBounds_toArray, List.set_cons_zero, List.set_cons_succ])
    refine wpE_takeS (i := 9) (d := some 36) (v := .int .i64 t) rfl rfl (by kernel_rfl) (by kernel_rfl) (by kernel_rfl) (by kernel_rfl) (fun _ _ _ h => h) (by rfl) ?hya9 hS0 trivial ?goa9
    case hya9 =>
      intro w9 hT9
      clear hT9; go_simp
    (try simp only [Act.put, List.setIfInBounds_toArray, List.set_cons_zero, List.set_cons_succ])
    refine wpE_takeS (i := 10) (d := some 37) (v := .slice S q cS) rfl rfl (by kernel_rfl) (by kernel_rfl) (by kernel_rfl) (by kernel_rfl) (fun _ _ _ h => h) (by rfl) ?hya10 hS0 trivial ?goa10
    case hya10 =>
      intro w9 hT9
      clear hT9; go_simp
    (try simp only [Act.put, List.setIfInBounds_toArray, List.set_cons_zero, List.set_cons_succ])
    refine wpE_all (rs := [5]) (by kernel_rfl) (by simp) ?_
    refine AllE.cons rfl (fun K hK => ?_) AllE.nil
    simp only [List.getElem_toArray, List.getElem_cons_succ, List.getElem_cons_zero]
    go_simp
    go_at_call 19
    refine (HI1.out _ hcur).mono ?_
    rintro z9 wa ⟨Aa, na, ca, rfl, hTa, hxa⟩
    have hcur := hcur.trans hxa
    simp only []
    refine hK.out _ _ ⟨fun _ => (HQ.out _ hcur), trivial⟩ (fun _ => ?_)
    clear hK K
    have hS0 := (HQ.out _ hcur)
    (try simp only [Act.put, List.setIfInBounds_toArray, List.set_cons_zero, List.set_cons_succ])
    refine wpE_all (rs := [11]) (by kernel_rfl) (by simp) ?_
    refine AllE.cons rfl (fun K hK => ?_) AllE.nil
    simp only [List.getElem_toArray, List.getElem_cons_succ, List.getElem_cons_zero]
    go_simp
    go_at_call 19
    refine (HI2.out _ hcur).mono ?_
    rintro z9 wb ⟨Ab, nb, cb, rfl, hTb, hxb⟩
    have hcur := hcur.trans hxb
    simp only []
    refine hK.out _ _ ⟨fun _ => (HQ.out _ hcur), trivial⟩ (fun _ => ?_)
    clear hK K
    have hS0 := (HQ.out _ hcur)
    (try simp only [Act.put, List.setIfInBounds_toArray, List.set_cons_zero, List.set_cons_succ])
    refine wpE_all (rs := [12]) (by kernel_rfl) (by simp) ?_
    refine AllE.cons rfl (fun K hK => ?_) AllE.nil
    simp only [List.getElem_toArray, List.getElem_cons_succ, List.getElem_cons_zero]
    go_simp
    go_at_call 28
    refine (within31_any wb Aa Ab na nb ca cb 16000000 16000000 _ _ (hTa.ext hxb) hTb (by omega) HSUB.out).mono ?_
    rintro z9 wq ⟨rfl, hxq⟩
    have hcur := hcur.trans hxq
    simp only []
    refine hK.out _ _ ⟨fun _ => (HQ.out _ hcur), trivial⟩ (fun _ => ?_)
    clear hK K
    have hS0 := (HQ.out _ hcur)
    (try simp only [Act.put, List.setIfInBounds_toArray, List.set_cons_zero, List.set_cons_succ])
    refine wpE_all (rs := [13]) (by kernel_rfl) (by simp) ?_
    refine AllE.cons rfl (fun K hK => ?_) AllE.nil
    simp only [List.getElem_toArray, List.getElem_cons_succ, List.getElem_cons_zero]
    go_simp
    refine hK.out _ _ ⟨fun _ => (HQ.out _ hcur), trivial⟩ (fun _ => ?_)
    clear hK K
    have hS0 := (HQ.out _ hcur)
    (try simp only [Act.put, List.setIfInBounds_toArray, List.set_cons_zero, List.set_cons_succ])
    refine wpE_done (by kernel_rfl) ?_ _
    go_wp2
    go_meet
    case rel => exact ⟨rfl, hcur⟩
  case rest =>
    obtain ⟨rfl, hxc⟩ := hcut
    have HXC := Lib.hid hxc
    clear hxc hcur
    go_wp2_with fail
    have HN := Lib.hid (Lay.row_len (HR.out _ (Ext.refl _)))
    have HNB := Lib.hid (show N ≤ 4 from by have := HN.out; have := HOK.out.n; omega)
    go_loopw [9, 10] (fun s9 s10 W => AlR w3 b s9 s10 W) (fun _ s10 _ => toM N s10)
    case atStart => exact ⟨0, _, [], Nat.zero_le _, rfl, rfl, by simp, (fun x hx => by simp at hx), (fun s hs => by cases hs), Lay.own_nil _ _ _ _ _, HXC.out⟩
    case round =>
      obtain ⟨i, out, la, hi, rfl, rfl, h3, hall, hgr, ho, hxr⟩ := hrel
      have HO := Lib.hid ho
      have HXR := Lib.hid hxr
      have HALL := Lib.hid hall
      have HGR := Lib.hid hgr
      have H3 := Lib.hid h3
      clear ho hxr hall hgr h3
      have hi9 : i ≤ 4 := by have := HN.out; have := HNB.out; omega
      obtain ⟨⟨a2, a3⟩, p0, p1, p2⟩ := HQ.out _ HXR.out
      by_cases hiN : i < N
      case pos =>
        have hI : (i : Int) < (N : Int) := by omega
        obtain ⟨x, hxi⟩ : ∃ x, b.secs[i]? = some x := ⟨_, List.getElem?_eq_getElem (by have := HN.out; omega)⟩
        obtain ⟨bs, os, cs, rfl, hbs, _, hrep, hcs⟩ := Lay.row_at (HR.out _ (Ext.refl _)) hxi
        obtain ⟨A1, nv, cv, A2, n4, c4, rfl, hn1, hn2, hr1, hr2⟩ := kSe_rep.1 hrep
        have e0 := hcs 0 _ rfl
        have e2 := hcs 2 _ rfl
        rw [kSe_sz] at e0 e2
        rw [Nat.add_zero] at e0
        have hl := HOK.out.vs x (List.mem_of_getElem? hxi)
        have hvl := Lay.row_len hr1
        have hnv : nv ≤ 3 := by omega
        have HNV := Lib.hid hvl
        have HR1 := Lib.hid hr1
        have HXI := Lib.hid hxi
        have HQE := Lib.hid (fun X (hX : Ext w3 X) => (show X.cell? ⟨bs, os + i * 4, none⟩ = some (.int .i64 x.ent) ∧ X.cell? ⟨bs, os + i * 4 + 2, none⟩ = some (.slice A1 nv cv) from ⟨(hX.cells.1 _ _ hbs).trans e0, (hX.cells.1 _ _ hbs).trans e2⟩))
        clear hrep hcs hr1 hr2 hxi hl e0 e2 hvl hn1 hn2
        obtain ⟨e0, e2⟩ := HQE.out _ HXR.out
        go_upto_region 10 with (fail)
        clear e0 e2 a2 a3 p0 p1 p2
        go_wp2_with fail
        go_loopw [9, 11] (fun s9 s11 W => AkR w3 b i x s9 s11 W) (fun _ s11 _ => toM nv s11)
        case atStart => exact ⟨0, _, la, Nat.zero_le _, rfl, rfl, by have := H3.out; omega, HALL.out, (fun v hv => by simp at hv), HGR.out, HO.out, HXR.out⟩
        case round =>
          obtain ⟨k, out2, lb, hk, rfl, rfl, h3, hall, hvs, hgr, ho, hxk⟩ := hrel
          have HOk := Lib.hid ho
          have HXK := Lib.hid hxk
          have HALk := Lib.hid hall
          have HVk := Lib.hid hvs
          have HGk := Lib.hid hgr
          have H3k := Lib.hid h3
          clear ho hxk hall hgr h3 hvs
          obtain ⟨e0, e2⟩ := HQE.out _ HXK.out
          obtain ⟨⟨a2, a3⟩, p0, p1, p2⟩ := HQ.out _ HXK.out
          by_cases hkn : k < nv
          case neg =>
            have hK : ¬ (k : Int) < (nv : Int) := by omega
            go_wp2_with fail
            go_roundw
            case rel =>
              refine ⟨i + 1, out2, lb, by have := HN.out; omega, by go_num, rfl, by have := H3k.out; have := HNV.out; omega, all_next HXI.out HALk.out ?_, HGk.out, HOk.out, HXK.out⟩
              have h9 := HVk.out
              rw [List.take_of_length_le (by have := HNV.out; omega)] at h9
              exact h9
            case measure => simp only [toM]; omega
          have hK : (k : Int) < (nv : Int) := by omega
          obtain ⟨vk, hvk⟩ : ∃ vk, x.vers[k]? = some vk := ⟨_, List.getElem?_eq_getElem (by have := HNV.out; omega)⟩
          obtain ⟨bv, ov, cc, rfl, hbv, _, hrv, hcv⟩ := Lay.row_at HR1.out hvk
          obtain rfl : cc = [.int .i64 vk] := hrv
          have v0 := hcv 0 _ rfl
          rw [show kInt.sz = 1 from rfl, Nat.mul_one, Nat.add_zero] at v0
          have HQS := Lib.hid (fun X (hX : Ext w3 X) => (show X.cell? ⟨g, 2, none⟩ = some (.slice (some ⟨bs, os, none⟩) N cB) ∧ X.cell? ⟨bs, os + i * 4, none⟩ = some (.int .i64 x.ent) ∧ X.cell? ⟨bs, os + i * 4 + 2, none⟩ = some (.slice (some ⟨bv, ov, none⟩) nv cv) ∧ X.cell? ⟨bv, ov + k, none⟩ = some (.int .i64 vk) from
            ⟨(HQ.out X hX).2.2.2, (HQE.out X hX).1, (HQE.out X hX).2, (hX.cells.1 _ _ hbv).trans v0⟩))
          have HVK := Lib.hid hvk
          obtain ⟨sx, hsx⟩ : ∃ sx : Sea, sx = ⟨x.ent, vk, 0, 1048576, 0⟩ := ⟨_, rfl⟩
          obtain ⟨wk, hwk⟩ : ∃ wk, wk = wr := ⟨_, rfl⟩
          have HOND : kSea.own 48 wr.drew w3.heap.size (fun _ => True) out2 lb := Lay.own_keep HOk.out (Nat.le_refl _) fun _ _ _ => rfl
          obtain ⟨A10, c10, w10, hrun, ho10, hb10, _, _, _⟩ := own_app1 (k := kSea) (Pr := Tryz.prog) (t := 28) Tryz.underlying28 info48 rfl (by decide) (by omega) HOND HXK.out.lt (cs := #[.int .i64 x.ent, .int .i64 vk, .int .i64 0, .int .i64 1048576, .int .i64 0]) (T := 48) (x := sx) (by rw [hsx]; rfl) 1 (by have := H3k.out; omega)
          have HRUN := Lib.hid (show (Builtin.append_ #[28, 28] 28 #[out2, .slice (some ⟨wr.heap.size, 0, none⟩) 1 1]).run Tryz.prog (wr.drew.alloc (.cells #[.int .i64 x.ent, .int .i64 vk, .int .i64 0, .int .i64 1048576, .int .i64 0] 48)) = .ok (.slice A10 (lb.length + 1) c10) w10 from hrun)
          have HX10 := Lib.hid (show Ext w3 w10 from Below.trans HXK.out.drew (hb10 _ (Nat.le_refl _)))
          have HREL := Lib.hid (show AkR w3 b i x (.slice A10 (lb.length + 1) c10) (.int .i64 ((k : Int) + 1)) w10 from by
            refine ⟨k + 1, _, lb ++ [sx], by have := HNV.out; omega, by simp, rfl, by rw [List.length_append]; have := H3k.out; simp only [List.length_singleton]; omega, all_add HALk.out sx, fun v hv => ?_, fun s hs => ?_, ho10, HX10.out⟩
            · rw [List.take_add_one, HVK.out] at hv
              rcases List.mem_append.1 hv with h9 | h9
              · obtain ⟨s, h1, h2⟩ := HVk.out v h9
                exact ⟨s, List.mem_append_left _ h1, h2⟩
              · simp only [Option.toList_some, List.mem_singleton] at h9
                subst h9
                exact ⟨sx, by simp, by rw [hsx]; exact ⟨rfl, rfl, rfl, rfl⟩⟩
            · rcases List.mem_append.1 hs with h9 | h9
              · exact HGk.out s h9
              · simp only [List.mem_singleton] at h9
                rw [h9, hsx])
          obtain ⟨L, hLL⟩ : ∃ L, lb.length + 1 = L := ⟨_, rfl⟩
          rw [hLL] at HRUN HREL
          clear hrun ho10 hb10 HOND hLL hsx hwk hvk hcv v0 hbv
          go_upto_region 13 with (fail)
          clear e0 e2 a2 a3 p0 p1 p2
          have hS0 : (fun X : World => X.cell? ⟨g, 2, none⟩ = some (.slice (some ⟨bs, os, none⟩) N cB) ∧ X.cell? ⟨bs, os + i * 4, none⟩ = some (.int .i64 x.ent) ∧ X.cell? ⟨bs, os + i * 4 + 2, none⟩ = some (.slice (some ⟨bv, ov, none⟩) nv cv) ∧ X.cell? ⟨bv, ov + k, none⟩ = some (.int .i64 vk)) wr.drew := HQS.out _ HXK.out.drew
          refine wp_region_E (fun X : World => X.cell? ⟨g, 2, none⟩ = some (.slice (some ⟨bs, os, none⟩) N cB) ∧ X.cell? ⟨bs, os + i * 4, none⟩ = some (.int .i64 x.ent) ∧ X.cell? ⟨bs, os + i * 4 + 2, none⟩ = some (.slice (some ⟨bv, ov, none⟩) nv cv) ∧ X.cell? ⟨bv, ov + k, none⟩ = some (.int .i64 vk)) (fun _ => True) (fun i => i == 99) (by kernel_rfl) ?_
          refine wpE_takeS (i := 0) (d := some 59) (v := out2) rfl rfl (by kernel_rfl) (by kernel_rfl) (by kernel_rfl) (by kernel_rfl) (fun _ _ _ h => h) (by rfl) ?hyb1 hS0 trivial ?gob1
          case hyb1 =>
            intro w9 hT9
            clear hT9; go_simp
          (try simp only [Act.put, List.setIfInBounds_toArray, List.set_cons_zero, List.set_cons_succ])
          refine wpE_takeS (i := 1) (d := some 60) (v := .pointer (some ⟨g, 2, none⟩)) rfl rfl (by kernel_rfl) (by kernel_rfl) (by kernel_rfl) (by kernel_rfl) (fun _ _ _ h => h) (by rfl) ?hyb2 hS0 trivial ?gob2
          case hyb2 =>
            intro w9 hT9
            clear hT9; go_simp
          (try simp only [Act.put, List.setIfInBounds_toArray, List.set_cons_zero, List.set_cons_succ])
          refine wpE_takeS (i := 2) (d := some 61) (v := .slice (some ⟨bs, os, none⟩) N cB) rfl rfl (by kernel_rfl) (by kernel_rfl) (by kernel_rfl) (by kernel_rfl) (fun _ _ _ h => h) (by rfl) ?hyb3 hS0 trivial ?gob3
          case hyb3 =>
            intro w9 hT9
            obtain ⟨y0, y1, y2, y3⟩ := hT9; go_simp
          (try simp only [Act.put, List.setIfInBounds_toArray, List.set_cons_zero, List.set_cons_succ])
          refine wpE_takeS (i := 3) (d := some 62) (v := .int .i64 (i : Int)) rfl rfl (by kernel_rfl) (by kernel_rfl) (by kernel_rfl) (by kernel_rfl) (fun _ _ _ h => h) (by rfl) ?hyb4 hS0 trivial ?gob4
          case hyb4 =>
            intro w9 hT9
            clear hT9; go_simp
          (try simp only [Act.put, List.setIfInBounds_toArray, List.set_cons_zero, List.set_cons_succ])
          refine wpE_takeS (i := 4) (d := some 63) (v := .pointer (some ⟨bs, os + i * 4, none⟩)) rfl rfl (by kernel_rfl) (by kernel_rfl) (by kernel_rfl) (by kernel_rfl) (fun _ _ _ h => h) (by rfl) ?hyb5 hS0 trivial ?gob5
          case hyb5 =>
            intro w9 hT9
            clear hT9; go_simp
          (try simp only [Act.put, List.setIfInBounds_toArray, List.set_cons_zero, List.set_cons_succ])
          refine wpE_takeS (i := 5) (d := some 64) (v := .pointer (some ⟨bs, os + i * 4, none⟩)) rfl rfl (by kernel_rfl) (by kernel_rfl) (by kernel_rfl) (by kernel_rfl) (fun _ _ _ h => h) (by rfl) ?hyb6 hS0 trivial ?gob6
          case hyb6 =>
            intro w9 hT9
            clear hT9; go_simp
          (try simp only [Act.put, List.setIfInBounds_toArray, List.set_cons_zero, List.set_cons_succ])
          refine wpE_takeS (i := 6) (d := some 65) (v := .int .i64 x.ent) rfl rfl (by kernel_rfl) (by kernel_rfl) (by kernel_rfl) (by kernel_rfl) (fun _ _ _ h => h) (by rfl) ?hyb7 hS0 trivial ?gob7
          case hyb7 =>
            intro w9 hT9
            obtain ⟨y0, y1, y2, y3⟩ := hT9; go_simp
          (try simp only [Act.put, List.setIfInBounds_toArray, List.set_cons_zero, List.set_cons_succ])
          refine wpE_takeS (i := 7) (d := some 66) (v := .pointer (some ⟨g, 2, none⟩)) rfl rfl (by kernel_rfl) (by kernel_rfl) (by kernel_rfl) (by kernel_rfl) (fun _ _ _ h => h) (by rfl) ?hyb8 hS0 trivial ?gob8
          case hyb8 =>
            intro w9 hT9
            clear hT9; go_simp
          (try simp only [Act.put, List.setIfInBounds_toArray, List.set_cons_zero, List.set_cons_succ])
          refine wpE_takeS (i := 8) (d := some 67) (v := .slice (some ⟨bs, os, none⟩) N cB) rfl rfl (by kernel_rfl) (by kernel_rfl) (by kernel_rfl) (by kernel_rfl) (fun _ _ _ h => h) (by rfl) ?hyb9 hS0 trivial ?gob9
          case hyb9 =>
            intro w9 hT9
            obtain ⟨y0, y1, y2, y3⟩ := hT9; go_simp
          (try simp only [Act.put, List.setIfInBounds_toArray, List.set_cons_zero, List.set_cons_succ])
          refine wpE_takeS (i := 9) (d := some 68) (v := .int .i64 (i : Int)) rfl rfl (by kernel_rfl) (by kernel_rfl) (by kernel_rfl) (by kernel_rfl) (fun _ _ _ h => h) (by rfl) ?hyb10 hS0 trivial ?gob10
          case hyb10 =>
            intro w9 hT9
            clear hT9; go_simp
          (try simp only [Act.put, List.setIfInBounds_toArray, List.set_cons_zero, List.set_cons_succ])
          refine wpE_takeS (i := 10) (d := some 69) (v := .pointer (some ⟨bs, os + i * 4, none⟩)) rfl rfl (by kernel_rfl) (by kernel_rfl) (by kernel_rfl) (by kernel_rfl) (fun _ _ _ h => h) (by rfl) ?hyb11 hS0 trivial ?gob11
          case hyb11 =>
            intro w9 hT9
            clear hT9; go_simp
          (try simp only [Act.put, List.setIfInBounds_toArray, List.set_cons_zero, List.set_cons_succ])
          refine wpE_takeS (i := 11) (d := some 70) (v := .pointer (some ⟨bs, os + i * 4 + 2, none⟩)) rfl rfl (by kernel_rfl) (by kernel_rfl) (by kernel_rfl) (by kernel_rfl) (fun _ _ _ h => h) (by rfl) ?hyb12 hS0 trivial ?gob12
          case hyb12 =>
            intro w9 hT9
            clear hT9; go_simp
          (try simp only [Act.put, List.setIfInBounds_toArray, List.set_cons_zero, List.set_cons_succ])
          refine wpE_takeS (i := 12) (d := some 71) (v := .slice (some ⟨bv, ov, none⟩) nv cv) rfl rfl (by kernel_rfl) (by kernel_rfl) (by kernel_rfl) (by kernel_rfl) (fun _ _ _ h => h) (by rfl) ?hyb13 hS0 trivial ?gob13
          case hyb13 =>
            intro w9 hT9
            obtain ⟨y0, y1, y2, y3⟩ := hT9; go_simp
          (try simp only [Act.put, List.setIfInBounds_toArray, List.set_cons_zero, List.set_cons_succ])
          refine wpE_takeS (i := 13) (d := some 72) (v := .int .i64 (k : Int)) rfl rfl (by kernel_rfl) (by kernel_rfl) (by kernel_rfl) (by kernel_rfl) (fun _ _ _ h => h) (by rfl) ?hyb14 hS0 trivial ?gob14
          case hyb14 =>
            intro w9 hT9
            clear hT9; go_simp
          (try simp only [Act.put, List.setIfInBounds_toArray, List.set_cons_zero, List.set_cons_succ])
          refine wpE_takeS (i := 14) (d := some 73) (v := .pointer (some ⟨bv, ov + k, none⟩)) rfl rfl (by kernel_rfl) (by kernel_rfl) (by kernel_rfl) (by kernel_rfl) (fun _ _ _ h => h) (by rfl) ?hyb15 hS0 trivial ?gob15
          case hyb15 =>
            intro w9 hT9
            clear hT9; go_simp
          (try simp only [Act.put, List.setIfInBounds_toArray, List.set_cons_zero, List.set_cons_succ])
          refine wpE_takeS (i := 15) (d := some 74) (v := .int .i64 vk) rfl rfl (by kernel_rfl) (by kernel_rfl) (by kernel_rfl) (by kernel_rfl) (fun _ _ _ h => h) (by rfl) ?hyb16 hS0 trivial ?gob16
          case hyb16 =>
            intro w9 hT9
            obtain ⟨y0, y1, y2, y3⟩ := hT9; go_simp
          (try simp only [Act.put, List.setIfInBounds_toArray, List.set_cons_zero, List.set_cons_succ])
          refine wpE_takeS (i := 16) (d := some 75) (v := .agg #[.int .i64 x.ent, .int .i64 vk, .int .i64 0, .int .i64 1048576, .int .i64 0]) rfl rfl (by kernel_rfl) (by kernel_rfl) (by kernel_rfl) (by kernel_rfl) (fun _ _ _ h => h) (by rfl) ?hyb17 hS0 trivial ?gob17
          case hyb17 =>
            intro w9 hT9
            clear hT9; go_simp
          (try simp only [Act.put, List.setIfInBounds_toArray, List.set_cons_zero, List.set_cons_succ])
          refine wpE_all (rs := [17]) (by kernel_rfl) (by simp) ?_
          refine AllE.cons rfl (fun K hK => ?_) AllE.nil
          simp only [List.getElem_toArray, List.getElem_cons_succ, List.getElem_cons_zero]
          go_simp
          refine hK.out _ _ ⟨fun _ => (HQS.out _ (HXK.out.drew.alloc (.cells #[.int .i64 x.ent, .int .i64 vk, .int .i64 0, .int .i64 1048576, .int .i64 0] 48))), trivial⟩ (fun _ => ?_)
          clear hK K
          have hS0 := (HQS.out _ (HXK.out.drew.alloc (.cells #[.int .i64 x.ent, .int .i64 vk, .int .i64 0, .int .i64 1048576, .int .i64 0] 48)))
          (try simp only [Act.put, List.setIfInBounds_toArray, List.set_cons_zero, List.set_cons_succ])
          refine wpE_all (rs := [18]) (by kernel_rfl) (by simp) ?_
          refine AllE.cons rfl (fun K hK => ?_) AllE.nil
          simp only [List.getElem_toArray, List.getElem_cons_succ, List.getElem_cons_zero]
          refine step_append_tm (s := .tmp 59) (x := .tmp 76) HRUN.out rfl rfl rfl rfl rfl ?_
          refine hK.out _ _ ⟨fun _ => (HQS.out _ HX10.out), trivial⟩ (fun _ => ?_)
          clear hK K
          have hS0 := (HQS.out _ HX10.out)
          (try simp only [Act.put, List.setIfInBounds_toArray, List.set_cons_zero, List.set_cons_succ])
          refine wpE_all (rs := [19]) (by kernel_rfl) (by simp) ?_
          refine AllE.cons rfl (fun K hK => ?_) AllE.nil
          simp only [List.getElem_toArray, List.getElem_cons_succ, List.getElem_cons_zero]
          go_simp
          refine hK.out _ _ ⟨fun _ => (HQS.out _ HX10.out), trivial⟩ (fun _ => ?_)
          clear hK K
          have hS0 := (HQS.out _ HX10.out)
          (try simp only [Act.put, List.setIfInBounds_toArray, List.set_cons_zero, List.set_cons_succ])
          refine wpE_done (by kernel_rfl) ?_ _
          go_wp2_with fail
          go_roundw
          case rel => exact HREL.out
          case measure => simp only [toM]; omega
      have hIn : ¬ (i : Int) < (N : Int) := by omega
      have hcap : ∃ A9 c9, out = .slice A9 la.length c9 ∧ kSea.row wr (fun _ => True) A9 la.length la := by
        obtain ⟨A9, c9, e9, h9, hr9⟩ := Lay.own_row HO.out
        exact ⟨A9, c9, e9, Lay.row_mono hr9 fun _ _ _ => trivial⟩
      obtain ⟨A9, c9, rfl, hr9⟩ := hcap
      have HR9 := Lib.hid hr9
      have HEMP := Lib.hid (show itemsB br t la b = [] from items_none (hit_all (fun x hx tx htx => by
        have ho := HOK.out.tx x hx tx htx
        have h9 := flat_lt (ps := tx.paras ++ tx.notes) fun p hp => by
          rcases List.mem_append.1 hp with h8 | h8
          · have := (ho.par.len p h8).2; omega
          · have := (ho.len p h8).2; omega
        rw [List.length_append] at h9
        have := ho.np
        have := ho.nn
        omega) (fun x hx v hv => by
        have h9 := HALL.out
        rw [List.take_of_length_le (by have := HN.out; omega)] at h9
        exact h9 x hx v hv)))
      obtain ⟨L, hLL⟩ : ∃ L, la.length = L := ⟨_, rfl⟩
      have hL9 : L ≤ 12 := by have := H3.out; omega
      have hLI : ¬ (1000 : Int) < (L : Int) := by omega
      have HI3 := Lib.hid (show Calls Tryz.prog 19 #[.agg #[.int .i64 b.ms, .int .i64 b.ht, .slice B N cB], .int .i64 br, .int .i64 t, .slice A9 L c9] wr (fun e w' => ∃ A1 c1, e = .returned (.slice A1 0 c1) ∧ Ext wr w') from by
        refine (items_mk wr b br t la B A9 N cB L c9 _ _ HOK.out (HR.out _ HXR.out) (by rw [← hLL]; exact HR9.out) (by omega) (fun s hs => by have := HGR.out s hs; unfold OkSea; omega) (HEV.out _ HXR.out)).mono ?_
        rintro e w' ⟨A1, m1, c1, rfl, hT, hx⟩
        rw [HEMP.out] at hT
        obtain rfl : m1 = 0 := hT.n.1
        exact ⟨A1, c1, rfl, hx⟩)
      rw [hLL]
      clear hr9 hLL
      go_wp2_with fail
      refine (HI3.out).mono ?_
      rintro e wy ⟨A1, c1, rfl, hxy⟩
      have HXY := Lib.hid (HXR.out.trans hxy)
      clear hxy a2 a3 p0 p1 p2
      go_wp2_with fail
      refine (HLV.out _ (HX1.out.trans (HX3.out.trans HXY.out))).mono ?_
      rintro e wz ⟨rfl, hxz⟩
      have HXZ := Lib.hid (HX1.out.trans (HX3.out.trans (HXY.out.trans hxz)))
      clear hxz
      go_wp2_with fail
      go_ret
      exact ⟨rfl, HXZ.out⟩
end Go.Proofs.YtdbnddmncbjobaaGreatDoor

/- The law IndexSeals, in the order of the door's arguments. -/
namespace Go.Proofs.YtdbnddmncbjobaaGreatDoor
open Go Go.RowKit

theorem seals_all (A A' : Option Addr) (c c' : Nat) (l l' : List Int) (br tb many : Int) (w : World) (h : IL w A c l) (hl : l.length ≤ 9223372036854775807) (h' : IL w A' c' l') (hl' : l'.length ≤ 9223372036854775807) (_ : -9223372036854775808 ≤ br ∧ br ≤ 9223372036854775807)
    (htb : -9223372036854775808 ≤ tb ∧ tb ≤ 9223372036854775807) (hmy : -9223372036854775808 ≤ many ∧ many ≤ 9223372036854775807) (hL : EnvW w) :
    Calls Tryz.prog 5 #[.agg #[.slice A l.length c, .slice A' l'.length c', .int .i64 br, .int .i64 tb], .int .i64 many] w fun e w' => e = .returned (.bool true) ∧ Ext w w' :=
  seals_law A A' c c' l l' br tb many w h hl h' hl' htb hmy hL
end Go.Proofs.YtdbnddmncbjobaaGreatDoor
