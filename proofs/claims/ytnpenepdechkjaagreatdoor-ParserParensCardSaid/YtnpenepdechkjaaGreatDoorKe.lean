/- The law's tree; the law of parentheses walked. -/
import Derived.Test.YtnpenepdechkjaaGreatDoorKd
import Derived.Test.YtnpenepdechkjaaGreatDoorQq
namespace Go.Proofs.YtnpenepdechkjaaGreatDoor
open Go Go.RowKit

theorem SL.takeN {α : Type} {cf : α → List Value} {sz : Nat} {W : World} {A : Option Addr} {n : Nat} {l : List α} (h : SL cf sz W A n l) (m : Nat) (hm : m ≤ n) : SL cf sz W A m (l.take m) := by
  obtain ⟨h1, h2⟩ := h
  refine ⟨by rw [List.length_take]; omega, fun h0 => ?_⟩
  obtain ⟨b, off, e, hb, hc⟩ := h2 (by omega)
  refine ⟨b, off, e, hb, fun i x hx j u hu => hc i x ?_ j u hu⟩
  rw [List.getElem?_take] at hx
  split at hx
  · exact hx
  · cases hx
def TreePost (w : World) (G : Tr → Prop) (e : Ending) (X : World) : Prop := ∃ (d : Nd) (t : Tr), e = .returned (.agg #[.int .i64 d.k, .int .i64 d.n, .string d.s, .slice d.A d.m d.c]) ∧ Rep X (fun k => w.heap.size ≤ k) d t ∧ G t ∧ Ext w X
set_option maxHeartbeats 2000000 in
set_option maxRecDepth 100000 in
theorem tree_any (deep : Nat) (hd : deep ≤ 7) (A : Option Addr) (c : Nat) (l : List Int) (w : World) (hb : ∀ n ∈ l, -9223372036854775808 ≤ n ∧ n ≤ 9223372036854775807) (hc : l.length ≤ c) (hc2 : c ≤ 9223372036854775807) (h : SL icf 1 w A l.length l) :
    Calls Tryz.prog 25 #[.slice A l.length c, .int .i64 deep] w (TreePost w (GAny deep)) := by
  obtain ⟨m, hm⟩ : ∃ m, m = min l.length 60 := ⟨_, rfl⟩
  have hm1 : m ≤ l.length := by omega
  have hm2 : m ≤ 60 := by omega
  have hmI : min (l.length : Int) 60 = (m : Int) := by omega
  have hmI1 : (m : Int) ≤ (l.length : Int) := by omega
  have hmc : (m : Int) ≤ (c : Int) := by omega
  have hFN : FN deep ≤ 10000 := by
    rcases (by omega : deep = 0 ∨ deep = 1 ∨ deep = 2 ∨ deep = 3 ∨ deep = 4 ∨ deep = 5 ∨ deep = 6 ∨ deep = 7) with rfl | rfl | rfl | rfl | rfl | rfl | rfl | rfl <;> decide
  have hx1 : Ext w (w.alloc (.cells #[.int .i64 0, .int .i64 0, .string ⟨#[]⟩, .slice none 0 0] 31)) := (Ext.refl _).alloc _
  have hn1 : NX (w.alloc (.cells #[.int .i64 0, .int .i64 0, .string ⟨#[]⟩, .slice none 0 0] 31)) w.heap.size 0 0 ⟨#[]⟩ (.slice none 0 0) := heap_alloc_new _ _
  have hz1 : (w.alloc (.cells #[.int .i64 0, .int .i64 0, .string ⟨#[]⟩, .slice none 0 0] 31)).heap.size = w.heap.size + 1 := by simp
  have HS := Lib.hid h
  have HB := Lib.hid hb
  clear h hb hm
  go_enter Tryz.func25, Tryz.ntmps25
  go_upto_region 1 with (fail)
  generalize w.alloc (.cells #[.int .i64 0, .int .i64 0, .string ⟨#[]⟩, .slice none 0 0] 31) = w1 at *
  go_upto_region 2 with (fail)
  have hlm : (l.take m).length = m := by rw [List.length_take]; omega
  have hx2 : Ext w1 (w1.alloc (.cells #[.slice A m c, .int .i64 0] 71)) := (Ext.refl _).alloc _
  have hbk : (w1.alloc (.cells #[.slice A m c, .int .i64 0] 71)).heap[w1.heap.size]? = some (.cells #[.slice A m c, .int .i64 0] 71 (0, 0)) := heap_alloc_new _ _
  have hz2 : (w1.alloc (.cells #[.slice A m c, .int .i64 0] 71)).heap.size = w.heap.size + 2 := by simp [hz1]
  generalize w1.alloc (.cells #[.slice A m c, .int .i64 0] 71) = w2 at *
  rw [hz1] at hbk
  have hAb : 0 < l.length → ∀ x, A = some x → x.block < w.heap.size := fun h0 x hx => by
    obtain ⟨b, off, e, hb, _⟩ := HS.out.2 h0
    rw [e] at hx
    injection hx with hx
    rw [← hx]; exact hb
  have hmb : MB w2 (w.heap.size + 1) A c (l.take m) 0 := ⟨by rw [hlm]; exact hbk, by rw [hlm]; exact ((HS.out.takeN m hm1).ext hx1).ext hx2, fun n hn => HB.out n (List.mem_of_mem_take hn), fun h0 x hx => by have := hAb (by rw [hlm] at h0; omega) x hx; omega, by rw [hlm]; omega, by omega⟩
  have HC := Lib.hid (any_any (deep + 1) deep w2 (w.heap.size + 1) A c (l.take m) 0 (by omega) hmb (fun h0 x hx => by have := hAb (by rw [hlm] at h0; omega) x hx; omega) hd (by omega))
  have HX2 := Lib.hid (hx1.trans hx2)
  have HN2 := Lib.hid (hn1.mv (b := w.heap.size + 5) (Mv.of_ext hx2) (by omega))
  clear hmb hbk hx1 hx2 hn1 hlm hAb
  go_wp2_with (first | (go_at_call 46; refine (HC.out).mono ?_; rintro e w3 ⟨d, t, rfl, hr, hg, _, hm⟩; have HR := Lib.hid hr; have HG := Lib.hid hg; have HM := Lib.hid hm; obtain ⟨_, z0, z1, z2, z3, z4, z5, z6, z7⟩ := (HN2.out.mv hm (by omega)).nb; clear hr hg hm))
  refine bodyPost_ret (v := .agg #[.int .i64 d.k, .int .i64 d.n, .string d.s, .slice d.A d.m d.c]) (by simp [results, Tryz.results25, go_sem, *]) rfl ?_
  have hn := Nat.le_refl w.heap.size
  refine ⟨d, t, rfl, (HR.out.keep (by simp) fun k hk _ => ?_).mono (fun k hk _ => by omega), HG.out, ?_⟩
  · rw [heap_setCell_other _ _ _ _ (by simp only; omega), heap_setCell_other _ _ _ _ (by simp only; omega), heap_setCell_other _ _ _ _ (by simp only; omega), heap_setCell_other _ _ _ _ (by simp only; omega)]
  · exact ((((HM.out.ext w (by omega) HX2.out).setCell (p := ⟨w.heap.size, 0, none⟩) hn _).setCell (p := ⟨w.heap.size, 1, none⟩) hn _).setCell (p := ⟨w.heap.size, 2, none⟩) hn _).setCell (p := ⟨w.heap.size, 3, none⟩) hn _
theorem ZN3 : ZN 3 = 40 := by decide
def PaRel (w : World) (n : Nat) (s : Value) (X : World) : Prop := ∃ k : Nat, k ≤ n ∧ s = .int .i64 k ∧ Ext w X
set_option maxHeartbeats 2000000 in
set_option maxRecDepth 100000 in
theorem parens_any (A : Option Addr) (c : Nat) (l : List Int) (w : World) (hc : l.length ≤ c) (hc2 : c ≤ 9223372036854775807) (hb : ∀ n ∈ l, -9223372036854775808 ≤ n ∧ n ≤ 9223372036854775807) (h : SL icf 1 w A l.length l) (hE : EnvP w) :
    Calls Tryz.prog 11 #[.slice A l.length c] w (BQ2 true w) := by
  have HE := Lib.hid hE
  have HLV := Lib.hid (fun X (hX : Ext w X) => lives_any X (hE.ext hX))
  have HTR := Lib.hid (tree_any 3 (by decide) A c l w hb hc hc2 h)
  clear h hb hE
  go_enter Tryz.func11, Tryz.ntmps11
  go_upto_region 2 with (first | (go_at_call 25; refine (HTR.out).mono ?_; rintro e w1 ⟨d, t, rfl, hr, hg, hx1⟩; have HR1 := Lib.hid hr; have HG := Lib.hid hg; have HX1 := Lib.hid hx1; clear hr hg hx1))
  have hx2 : Ext w1 (w1.alloc (.cells #[.int .i64 d.k, .int .i64 d.n, .string d.s, .slice d.A d.m d.c] 31)) := (Ext.refl _).alloc _
  have hn2 : NX (w1.alloc (.cells #[.int .i64 d.k, .int .i64 d.n, .string d.s, .slice d.A d.m d.c] 31)) w1.heap.size d.k d.n d.s (.slice d.A d.m d.c) := heap_alloc_new _ _
  generalize w1.alloc (.cells #[.int .i64 d.k, .int .i64 d.n, .string d.s, .slice d.A d.m d.c] 31) = w2 at *
  generalize w1.heap.size = g3 at *
  have HX2 := Lib.hid (HX1.out.trans hx2)
  have HR2 := Lib.hid (HR1.out.ext hx2)
  have HN2 := Lib.hid hn2
  obtain ⟨_, k0, k1, k2, k3, _, _, _, _⟩ := hn2.nb
  have hts : tsz t ≤ 40 := by have := HG.out.2; rw [ZN3] at this; exact this
  have hgt := HG.out.1.gt
  have hsb := shB_tsz hgt
  have hsl := showT_len hgt
  obtain ⟨S, hS⟩ : ∃ S, S = bs (showT t) := ⟨_, rfl⟩
  have hSs : S.size ≤ 2400 := by rw [hS, bs_size]; omega
  have HSH := Lib.hid (show Calls Tryz.prog 26 #[.agg #[.int .i64 d.k, .int .i64 d.n, .string d.s, .slice d.A d.m d.c]] w2 (fun e X' => e = .returned (.string S) ∧ Ext w2 X') from by
    have h9 := pshow_any 100 t d _ w2 (by omega) hgt (by omega) HR2.out (HE.out.2.ext HX2.out)
    unfold StrPost at h9
    rw [hS]; exact h9)
  have HGD := Lib.hid (show GD 6 t from HG.out.1)
  have HLL := Lib.hid (show (showT t).length ≤ 3000 by omega)
  have HTS := Lib.hid hts
  have HEX := Lib.hid (fun (Z : ByteArray) (y : Tr) (hZ : parseE Z.data.toList = (y, 0, 0)) (hZs : Z.size ≤ 281474976710656) X (hX : Ext w X) => (show Calls Tryz.prog 18 #[.string Z] X (fun e X' => ∃ d' : Nd, e = .returned (.tuple #[.agg #[.int .i64 d'.k, .int .i64 d'.n, .string d'.s, .slice d'.A d'.m d'.c], .int .i64 0, .int .i64 0]) ∧ Rep X' (fun k => X.heap.size ≤ k) d' y ∧ Ext X X') from by
    have h9 := pExpr_any Z X hZs (HE.out.1.ext hX)
    rw [hZ] at h9
    refine h9.mono ?_
    rintro e X' ⟨v, rfl, ⟨d', rfl, hr⟩, hx⟩
    exact ⟨d', rfl, hr, hx⟩))
  have HSM := Lib.hid (fun (y : Tr) (d1 d2 : Nd) P Q X (hy : tsz y ≤ 1000) (ha : Rep X P d1 y) (hb : Rep X Q d2 y) => (show Calls Tryz.prog 20 #[.agg #[.int .i64 d1.k, .int .i64 d1.n, .string d1.s, .slice d1.A d1.m d1.c], .agg #[.int .i64 d2.k, .int .i64 d2.n, .string d2.s, .slice d2.A d2.m d2.c]] X (BQ2 true X) from by
    have h9 := same_any (tsz y) y y d1 d2 P Q X (Nat.le_refl _) (by omega) (by omega) ha hb
    rw [(eqT_iff y y).2 rfl] at h9; exact h9))
  have HSS := Lib.hid hS
  clear hx2 hn2 hS hts hgt hsb hsl HR1
  go_upto_region 3 with (first | (go_at_call 26; refine (HSH.out).mono ?_; rintro e w3 ⟨rfl, hx3⟩))
  have HX3 := Lib.hid (HX2.out.trans hx3)
  have HR3 := Lib.hid (HR2.out.ext hx3)
  have HN3 := Lib.hid (HN2.out.mv (b := g3 + 1) (Mv.of_ext hx3) (by omega))
  clear hx3 k0 k1 k2 k3 HX2 HR2 HN2 HSH
  have r1 : ¬ 9223372036854775807 < 1 + S.size := by omega
  have r2 : ¬ 9223372036854775807 < 1 + S.size + 1 := by omega
  have r3 : ¬ 9223372036854775807 < 2 + S.size := by omega
  have r4 : ¬ 9223372036854775807 < 2 + S.size + 2 := by omega
  go_upto_region 4 with (fail)
  have hx4 : Ext w3 (w3.alloc (.cells #[.string S, .string (⟨#[40]⟩ ++ S ++ ⟨#[41]⟩), .string (⟨#[40, 40]⟩ ++ S ++ ⟨#[41, 41]⟩)] 9)) := (Ext.refl _).alloc _
  have hrow : (w3.alloc (.cells #[.string S, .string (⟨#[40]⟩ ++ S ++ ⟨#[41]⟩), .string (⟨#[40, 40]⟩ ++ S ++ ⟨#[41, 41]⟩)] 9)).heap[w3.heap.size]? = some (.cells #[.string S, .string (⟨#[40]⟩ ++ S ++ ⟨#[41]⟩), .string (⟨#[40, 40]⟩ ++ S ++ ⟨#[41, 41]⟩)] 9 (0, 0)) := heap_alloc_new _ _
  have hg4 : w3.heap.size < (w3.alloc (.cells #[.string S, .string (⟨#[40]⟩ ++ S ++ ⟨#[41]⟩), .string (⟨#[40, 40]⟩ ++ S ++ ⟨#[41, 41]⟩)] 9)).heap.size := by simp
  generalize w3.alloc (.cells #[.string S, .string (⟨#[40]⟩ ++ S ++ ⟨#[41]⟩), .string (⟨#[40, 40]⟩ ++ S ++ ⟨#[41, 41]⟩)] 9) = w4 at *
  generalize w3.heap.size = g4 at *
  have HROW := Lib.hid (show ∀ j, j < 3 → w4.cell? ⟨g4, j, none⟩ = some (.string (bs (parW t j))) from fun j hj => by
    rw [cell_of_row _ _ _ _ 9 (0, 0) hrow]
    have e1 : (⟨#[40]⟩ ++ S ++ ⟨#[41]⟩ : ByteArray) = bs (parW t 1) := by apply ByteArray.ext; rw [HSS.out]; simp [parW]
    have e2 : (⟨#[40, 40]⟩ ++ S ++ ⟨#[41, 41]⟩ : ByteArray) = bs (parW t 2) := by apply ByteArray.ext; rw [HSS.out]; simp [parW]
    have e0 : S = bs (parW t 0) := HSS.out
    rw [e1, e2]
    rcases (by omega : j = 0 ∨ j = 1 ∨ j = 2) with rfl | rfl | rfl
    · rw [e0]; rfl
    · rfl
    · rfl)
  have HX4 := Lib.hid (HX3.out.trans hx4)
  have HR4 := Lib.hid (HR3.out.ext hx4)
  have HN4 := Lib.hid (HN3.out.mv (b := g3 + 1) (Mv.of_ext hx4) (by omega))
  clear hrow hx4 HX3 HR3 HN3 r1 r2 r3 r4
  go_wp2_with fail
  go_loopw [6] (fun s6 X => PaRel w4 3 s6 X) (fun s6 _ => toM 3 s6)
  case atStart => exact ⟨0, by omega, rfl, Ext.refl _⟩
  case round =>
    obtain ⟨j, hj, rfl, hx⟩ := hrel
    have HXJ := Lib.hid hx
    have HXT := Lib.hid (HX4.out.trans hx)
    have HNJ := Lib.hid (HN4.out.mv (b := g3 + 1) (Mv.of_ext hx) (by omega))
    have HRJ := Lib.hid (HR4.out.ext hx)
    clear hx
    by_cases hjl : j < 3
    case pos =>
      have hJ : (j : Int) < 3 := by omega
      have q0 := cells_ext (HROW.out j hjl) HXJ.out
      have hgl := Nat.lt_of_lt_of_le hg4 HXJ.out.lt
      obtain ⟨SW, hSW⟩ : ∃ Z, Z = bs (parW t j) := ⟨_, rfl⟩
      have HE1 := Lib.hid (HEX.out SW t (by rw [hSW]; exact par_parse HGD.out HLL.out j) (by
        have h8 := HLL.out
        rw [hSW, bs_size]
        unfold parW
        split
        · omega
        split <;> simp <;> omega) wr HXT.out)
      rw [← hSW] at q0
      clear hSW
      go_upto_region 8 with (first | (go_at_call 18; refine (HE1.out).mono ?_; rintro e w5 ⟨d5, rfl, hr5, hx5⟩))
      have hx6 : Ext w5 (w5.alloc (.cells #[.int .i64 d5.k, .int .i64 d5.n, .string d5.s, .slice d5.A d5.m d5.c] 31)) := (Ext.refl _).alloc _
      have hn6 : NX (w5.alloc (.cells #[.int .i64 d5.k, .int .i64 d5.n, .string d5.s, .slice d5.A d5.m d5.c] 31)) w5.heap.size d5.k d5.n d5.s (.slice d5.A d5.m d5.c) := heap_alloc_new _ _
      generalize w5.alloc (.cells #[.int .i64 d5.k, .int .i64 d5.n, .string d5.s, .slice d5.A d5.m d5.c] 31) = w6 at *
      generalize w5.heap.size = g5 at *
      have HX6 := Lib.hid (hx5.trans hx6)
      obtain ⟨_, k0, k1, k2, k3, _, _, _, _⟩ := (HNJ.out.mv (b := g3 + 1) (Mv.of_ext HX6.out) (by omega)).nb
      obtain ⟨_, n0, n1, n2, n3, _, _, _, _⟩ := hn6.nb
      have HSA := Lib.hid (HSM.out t d5 d _ _ w6 (by have := HTS.out; omega) (hr5.ext hx6) (HRJ.out.ext HX6.out))
      clear hx5 hx6 hn6 hr5 q0
      go_wp2_with (first | (go_at_call 20; refine (HSA.out).mono ?_; rintro e w7 ⟨rfl, hx7⟩))
      exact ⟨⟨j + 1, by omega, by simp, (HXJ.out.trans HX6.out).trans hx7⟩, by simp only [toM]; omega⟩
    case neg =>
      obtain rfl : j = 3 := by omega
      have hni : ¬ ((3 : Int) < (3 : Int)) := by omega
      have r1 : ¬ 9223372036854775807 < 5 + S.size := by omega
      have r2 : ¬ 9223372036854775807 < 5 + S.size + 1 := by omega
      obtain ⟨Z, hZ⟩ : ∃ Z, Z = (⟨#[110, 101, 120, 116, 40]⟩ ++ S ++ ⟨#[41]⟩ : ByteArray) := ⟨_, rfl⟩
      have hZl : Z.data.toList = [110, 101, 120, 116, 40] ++ showT t ++ [41] := by rw [hZ, HSS.out]; simp
      have HE1 := Lib.hid (HEX.out Z (.nd 10 0 wNext [t]) (by rw [hZl]; exact par_next HGD.out HLL.out) (by
        have h8 : Z.size = Z.data.toList.length := by rw [Array.length_toList]; rfl
        rw [h8, hZl]
        have := HLL.out
        simp; omega) wr HXT.out)
      rw [hZ] at HE1
      clear hZl hZ
      go_upto_region 11 with (first | (go_at_call 18; refine (HE1.out).mono ?_; rintro e w5 ⟨d5, rfl, hr5, hx5⟩))
      have hx6 : Ext w5 (w5.alloc (.cells #[.int .i64 d5.k, .int .i64 d5.n, .string d5.s, .slice d5.A d5.m d5.c] 31)) := (Ext.refl _).alloc _
      have hn6 : NX (w5.alloc (.cells #[.int .i64 d5.k, .int .i64 d5.n, .string d5.s, .slice d5.A d5.m d5.c] 31)) w5.heap.size d5.k d5.n d5.s (.slice d5.A d5.m d5.c) := heap_alloc_new _ _
      generalize w5.alloc (.cells #[.int .i64 d5.k, .int .i64 d5.n, .string d5.s, .slice d5.A d5.m d5.c] 31) = w6 at *
      generalize w5.heap.size = g5 at *
      have HX6 := Lib.hid (hx5.trans hx6)
      have HR6 := Lib.hid (hr5.ext hx6)
      have HRT := Lib.hid (HRJ.out.ext HX6.out)
      obtain ⟨_, k0, k1, k2, k3, _, _, _, _⟩ := (HNJ.out.mv (b := g3 + 1) (Mv.of_ext HX6.out) (by omega)).nb
      obtain ⟨_, n0, n1, n2, n3, _, _, _, _⟩ := hn6.nb
      have hx7 : Ext w6 (w6.alloc (.cells #[.int .i64 d.k, .int .i64 d.n, .string d.s, .slice d.A d.m d.c] 31)) := (Ext.refl _).alloc _
      have hr7 : Rep (w6.alloc (.cells #[.int .i64 d.k, .int .i64 d.n, .string d.s, .slice d.A d.m d.c] 31)) (fun _ => True) ⟨10, 0, ⟨#[110, 101, 120, 116]⟩, some ⟨w6.heap.size, 0, none⟩, 1, 1⟩ (.nd 10 0 wNext [t]) :=
        .mk 10 0 wNext _ 1 [d] [t] (fun x hx => ⟨trivial, by injection hx with hx; subst hx; simp⟩) (SL.new ndcf_len w6 [d] _ rfl 31) rfl (fun i h t' h1 h2 => by
          have hi : i < 1 := (List.getElem?_eq_some_iff.1 h1).1
          obtain rfl : i = 0 := by omega
          simp only [List.getElem?_cons_zero, Option.some.injEq] at h1 h2
          subst h1 h2
          exact (HRT.out.ext hx7).mono fun _ _ _ => trivial)
      have HSA := Lib.hid (HSM.out (.nd 10 0 wNext [t]) d5 ⟨10, 0, ⟨#[110, 101, 120, 116]⟩, some ⟨w6.heap.size, 0, none⟩, 1, 1⟩ _ _ (w6.alloc (.cells #[.int .i64 d.k, .int .i64 d.n, .string d.s, .slice d.A d.m d.c] 31)) (by have := HTS.out; simp only [tsz, tszs]; omega) (HR6.out.ext hx7) hr7)
      have HXE := Lib.hid ((HXT.out.trans HX6.out).trans hx7)
      clear hx5 hx6 hx7 hn6 hr5 hr7 HR6
      go_wp2_with (first
        | (go_at_call 20; refine (HSA.out).mono ?_; rintro e w7 ⟨rfl, hx8⟩; have HX8 := Lib.hid (HXE.out.trans hx8); clear hx8)
        | (go_at_call 17; refine (HLV.out _ HX8.out).mono ?_; rintro e w8 ⟨rfl, hx9⟩))
      go_ret
      exact ⟨rfl, HX8.out.trans hx9⟩
end Go.Proofs.YtnpenepdechkjaaGreatDoor
