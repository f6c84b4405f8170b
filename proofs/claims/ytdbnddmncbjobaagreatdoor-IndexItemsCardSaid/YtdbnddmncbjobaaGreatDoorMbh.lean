/- The reference's Word, find, Text, bit, Groups: walked. -/
import Derived.Test.YtdbnddmncbjobaaGreatDoorMbg
namespace Go.Proofs.YtdbnddmncbjobaaGreatDoor
section
open Go Go.RowKit
attribute [local go_sem] Oper.semAt_some
theorem idxI_here {β : Type} (p : β → Bool) : ∀ (xs : List β) (i : Nat) (x : β), xs[i]? = some x → p x = true → (∀ y ∈ xs.take i, p y = false) → idxI p xs = (i : Int)
 | [], _, _, h, _, _ => by simp at h
 | a :: r, 0, x, h, hp, _ => by
  simp only [List.getElem?_cons_zero, Option.some.injEq] at h
  subst h
  rw [idxI, if_pos hp]; rfl
 | a :: r, i + 1, x, h, hp, hn => by
  rw [List.getElem?_cons_succ] at h
  have h1 := hn a (by simp [List.take_succ_cons])
  have ih := idxI_here p r i x h hp fun y hy => hn y (by rw [List.take_succ_cons]; exact List.mem_cons_of_mem _ hy)
  rw [idxI, if_neg (by rw [h1]; decide), ih]
  rfl
theorem take_nf {β : Type} {p : β → Bool} {xs : List β} {i : Nat} {x : β} (h : ∀ y ∈ xs.take i, p y = false) (hx : xs[i]? = some x) (hp : p x = false) : ∀ y ∈ xs.take (i + 1), p y = false := fun y hy => by
 rw [List.take_add_one, hx] at hy
 rcases List.mem_append.1 hy with h9 | h9
 ·exact h y h9
 ·simp only [Option.toList_some, List.mem_singleton] at h9
  rw [h9]; exact hp
set_option maxHeartbeats 4000000 in
set_option maxRecDepth 100000 in
theorem word60_any (P : Nat → Prop) (w : World) (A A' : Option Addr) (n n' c c' : Nat) (t : Tx) (k : Int) (h1 : kWs.row w P A n t.paras) (h2 : kWs.row w P A' n' t.notes) (hn : n ≤ 10000) (hn' : n' ≤ 10000) (hp : ∀ p ∈ t.paras ++ t.notes, p.length ≤ 1000) :
  Calls Tryz.prog 60 #[.agg #[.slice A n c, .slice A' n' c'], .int .i64 k] w fun e w' => e = .returned (wdR (wordT t k)) ∧ Ext w w' := by
 obtain ⟨z, hz⟩ : ∃ z, w.heap.size = z := ⟨_, rfl⟩
 obtain ⟨w1, hw1⟩ : ∃ w1, (w.alloc (.cells #[.slice A n c, .slice A' n' c'] 53)).alloc (.cells #[.string ⟨#[]⟩, .string ⟨#[]⟩, .int .i64 0, .int .i64 0] 60) = w1 := ⟨_, rfl⟩
 have hx1 : Ext w w1 := by rw [← hw1]; exact ((Ext.refl w).alloc _).alloc _
 have hB1 : w1.heap[z]? = some (.cells #[.slice A n c, .slice A' n' c'] 53 (0, 0)) := by rw [← hw1, ← hz, haO _ _ _ (by simp)]; exact heap_alloc_new _ _
 have hG1 : GwB (z + 1) noWd w1 := ⟨by rw [← hw1, ← hz]; exact haA _ _ _ _ (by simp)⟩
 have HZ := Hd (show w.heap.size ≤ z + 1 by omega)
 have HX1 := Hd hx1
 have HW := Hd (words118_any P w1 A A' n n' c c' t (Lay.row_ext h1 hx1) (Lay.row_ext h2 hx1) hn hn' hp)
 have hfl : (t.paras ++ t.notes).flatten.length ≤ 20000000 := by
  have h9 := flat_lt hp
  have := Lay.row_len h1
  have := Lay.row_len h2
  rw [List.length_append] at h9
  omega
 have HWT := Hd (show wordT t k = if k < 0 then none else (t.paras ++ t.notes).flatten[k.toNat]? from rfl)
 obtain ⟨o, ho⟩ : ∃ o, wordT t k = o := ⟨_, rfl⟩
 rw [ho] at HWT ⊢
 obtain ⟨L, hL⟩ : ∃ L, (t.paras ++ t.notes).flatten = L := ⟨_, rfl⟩
 rw [hL] at HW HWT hfl
 have a0 := cof hB1 (i := 0) rfl
 have a1 := cof hB1 (i := 1) rfl
 have HG1 := Hd hG1
 clear h1 h2 hn hn' hp hx1 hB1 hG1 ho hL
 go_enter Tryz.func60, Tryz.ntmps60
 go_upto_region 1 with (fail)
 clear hw1 hz
 go_wp2_with fail
 refine (HW.out).mono ?_
 rintro e w2 ⟨A1, n1, c1, rfl, hn1, hr, hx2⟩
 have HR := Hd hr
 have HN1 := Hd (Lay.row_len hr)
 have HX2 := Hd (HX1.out.trans hx2)
 have HG2 := Hd (show GwB (z + 1) noWd w2 from ⟨(hx2.block _ (lt_of_block HG1.out.b)).trans HG1.out.b⟩)
 have hnb : n1 ≤ 20000000 := by have := Lay.row_len hr; omega
 clear hr hx2 a0 a1 hn1
 have f0 := fof HG2.out.b 0
 have f1 := fof HG2.out.b 1
 have f2 := fof HG2.out.b 2
 have f3 := fof HG2.out.b 3
 have e0 := cof HG2.out.b (i := 0) rfl
 have e1 := cof HG2.out.b (i := 1) rfl
 have e2 := cof HG2.out.b (i := 2) rfl
 have e3 := cof HG2.out.b (i := 3) rfl
 by_cases hk0 : k < 0
 ·have hon : o = none := by rw [HWT.out, if_pos hk0]
  subst hon
  go_wp2_with fail
  obtain ⟨Y, hY⟩ : ∃ Y, ((((w2.setCell ⟨z + 1, 0, none⟩ (.string ⟨#[]⟩)).setCell ⟨z + 1, 1, none⟩ (.string ⟨#[]⟩)).setCell ⟨z + 1, 2, none⟩ (.int .i64 0)).setCell ⟨z + 1, 3, none⟩ (.int .i64 0)) = Y := ⟨_, rfl⟩
  have hg : GwB (z + 1) noWd _ ∧ Ext w _ := HG2.out.set (w := w) HZ.out HX2.out noWd
  rw [show ((((w2.setCell ⟨z + 1, 0, none⟩ (.string ⟨noWd.s.toArray⟩)).setCell ⟨z + 1, 1, none⟩ (.string ⟨noWd.key.toArray⟩)).setCell ⟨z + 1, 2, none⟩ (.int .i64 noWd.tb)).setCell ⟨z + 1, 3, none⟩ (.int .i64 noWd.nt)) = Y from hY] at hg
  rw [hY]
  obtain ⟨g1, g2⟩ := hg
  have q0 := cof g1.b (i := 0) (u := .string ⟨#[]⟩) rfl
  have q1 := cof g1.b (i := 1) (u := .string ⟨#[]⟩) rfl
  have q2 := cof g1.b (i := 2) (u := .int .i64 0) rfl
  have q3 := cof g1.b (i := 3) (u := .int .i64 0) rfl
  refine bodyPost_ret (v := wdR none) (by simp [results, Tryz.results60, go_sem, q0, q1, q2, q3]; rfl) rfl ?_
  exact ⟨rfl, g2⟩
 obtain ⟨kn, hkn⟩ : ∃ kn : Nat, k = (kn : Int) := ⟨k.toNat, by omega⟩
 subst hkn
 have hk0 : ¬ (kn : Int) < 0 := by omega
 rw [if_neg hk0, Int.toNat_natCast] at HWT
 by_cases hlt : kn < n1
 case neg =>
  have hge : (kn : Int) ≥ (n1 : Int) := by omega
  have hle : (n1 : Int) ≤ (kn : Int) := by omega
  have hon : o = none := by rw [HWT.out]; exact List.getElem?_eq_none (by have := HN1.out; omega)
  subst hon
  clear hlt
  go_wp2_with fail
  obtain ⟨Y, hY⟩ : ∃ Y, ((((w2.setCell ⟨z + 1, 0, none⟩ (.string ⟨#[]⟩)).setCell ⟨z + 1, 1, none⟩ (.string ⟨#[]⟩)).setCell ⟨z + 1, 2, none⟩ (.int .i64 0)).setCell ⟨z + 1, 3, none⟩ (.int .i64 0)) = Y := ⟨_, rfl⟩
  have hg : GwB (z + 1) noWd _ ∧ Ext w _ := HG2.out.set (w := w) HZ.out HX2.out noWd
  rw [show ((((w2.setCell ⟨z + 1, 0, none⟩ (.string ⟨noWd.s.toArray⟩)).setCell ⟨z + 1, 1, none⟩ (.string ⟨noWd.key.toArray⟩)).setCell ⟨z + 1, 2, none⟩ (.int .i64 noWd.tb)).setCell ⟨z + 1, 3, none⟩ (.int .i64 noWd.nt)) = Y from hY] at hg
  rw [hY]
  obtain ⟨g1, g2⟩ := hg
  have q0 := cof g1.b (i := 0) (u := .string ⟨#[]⟩) rfl
  have q1 := cof g1.b (i := 1) (u := .string ⟨#[]⟩) rfl
  have q2 := cof g1.b (i := 2) (u := .int .i64 0) rfl
  have q3 := cof g1.b (i := 3) (u := .int .i64 0) rfl
  refine bodyPost_ret (v := wdR none) (by simp [results, Tryz.results60, go_sem, q0, q1, q2, q3]; rfl) rfl ?_
  exact ⟨rfl, g2⟩
 have hI : (kn : Int) < (n1 : Int) := by omega
 have hge : ¬ (kn : Int) ≥ (n1 : Int) := by omega
 have hle : ¬ (n1 : Int) ≤ (kn : Int) := by omega
 obtain ⟨x, hx⟩ : ∃ x, L[kn]? = some x := ⟨_, List.getElem?_eq_getElem (by have := HN1.out; omega)⟩
 have hox : o = some x := by rw [HWT.out]; exact hx
 subst hox
 obtain ⟨b0, off, cs, rfl, hb0, _, hrep, hcell⟩ := Lay.row_at HR.out hx
 rw [kWd_rep] at hrep
 subst hrep
 have c0 := hcell 0 _ rfl
 have c1 := hcell 1 _ rfl
 have c2 := hcell 2 _ rfl
 have c3 := hcell 3 _ rfl
 rw [kWd_sz] at c0 c1 c2 c3
 rw [Nat.add_zero] at c0
 clear hcell hx hlt
 go_wp2_with fail
 obtain ⟨Y, hY⟩ : ∃ Y, ((((w2.setCell ⟨z + 1, 0, none⟩ (.string ⟨x.s.toArray⟩)).setCell ⟨z + 1, 1, none⟩ (.string ⟨x.key.toArray⟩)).setCell ⟨z + 1, 2, none⟩ (.int .i64 x.tb)).setCell ⟨z + 1, 3, none⟩ (.int .i64 x.nt)) = Y := ⟨_, rfl⟩
 have hg := HG2.out.set (w := w) HZ.out HX2.out x
 rw [hY] at hg ⊢
 obtain ⟨g1, g2⟩ := hg
 have q0 := cof g1.b (i := 0) (u := .string ⟨x.s.toArray⟩) rfl
 have q1 := cof g1.b (i := 1) (u := .string ⟨x.key.toArray⟩) rfl
 have q2 := cof g1.b (i := 2) (u := .int .i64 x.tb) rfl
 have q3 := cof g1.b (i := 3) (u := .int .i64 x.nt) rfl
 refine bodyPost_ret (v := wdR (some x)) (by simp [results, Tryz.results60, go_sem, q0, q1, q2, q3]; rfl) rfl ?_
 exact ⟨rfl, g2⟩
def FdL (w1 : World) (n : Nat) (p : Nat → Prop) (s5 : Value) (W : World) : Prop := ∃ i : Nat, i ≤ n ∧ s5 = .int .i64 i ∧ p i ∧ Ext w1 W
set_option maxHeartbeats 4000000 in
set_option maxRecDepth 100000 in
theorem find117_any (P : Nat → Prop) (w : World) (ms ht e : Int) (secs : List Se) (A : Option Addr) (N c : Nat) (hr : kSe.row w P A N secs) (hN : N ≤ 1000000) :
  Calls Tryz.prog 117 #[.agg #[.int .i64 ms, .int .i64 ht, .slice A N c], .int .i64 e] w fun z w' => z = .returned (.int .i64 (idxI (fun x => x.ent == e) secs)) ∧ Ext w w' := by
 obtain ⟨z, hz⟩ : ∃ z, w.heap.size = z := ⟨_, rfl⟩
 obtain ⟨w1, hw1⟩ : ∃ w1, w.alloc (.cells #[.int .i64 ms, .int .i64 ht, .slice A N c] 27) = w1 := ⟨_, rfl⟩
 have hx1 : Ext w w1 := by rw [← hw1]; exact (Ext.refl w).alloc _
 have hB1 : w1.heap[z]? = some (.cells #[.int .i64 ms, .int .i64 ht, .slice A N c] 27 (0, 0)) := by rw [← hw1, ← hz]; exact heap_alloc_new _ _
 have HX1 := Hd hx1
 have HB1 := Hd hB1
 have HR := Hd (Lay.row_ext hr hx1)
 have HL := Hd (Lay.row_len hr)
 have HNO := Hd (fun (h : ∀ y ∈ secs, (y.ent == e) = false) => idxI_neg (fun x : Se => x.ent == e) secs h)
 have HYES := Hd (fun i x h1 h2 h3 => idxI_here (fun x : Se => x.ent == e) secs i x h1 h2 h3)
 obtain ⟨q, hq⟩ : ∃ q, idxI (fun x => x.ent == e) secs = q := ⟨_, rfl⟩
 rw [hq] at HNO HYES ⊢
 clear hr hx1 hB1 hq
 go_enter Tryz.func117, Tryz.ntmps117
 go_wp2_with fail
 clear hw1 hz
 go_loopw [5] (fun s5 W => FdL w1 N (fun i => ∀ y ∈ secs.take i, (y.ent == e) = false) s5 W) (fun s5 _ => toM N s5)
 case atStart => exact ⟨0, Nat.zero_le _, rfl, (fun y hy => by simp at hy), Ext.refl _⟩
 obtain ⟨i, hi, rfl, hno, hxr⟩ := hrel
 have HXR := Hd hxr
 have HNR := Hd hno
 clear hxr hno
 have a2 := cof ((HXR.out.block _ (lt_of_block HB1.out)).trans HB1.out) (i := 2) rfl
 by_cases hlt : i < N
 case neg =>
  have hI : ¬ (i : Int) < (N : Int) := by omega
  have h9 := HNR.out
  rw [List.take_of_length_le (by have := HL.out; omega)] at h9
  obtain rfl := HNO.out h9
  clear h9
  go_wp2_with fail
  go_ret
  exact ⟨rfl, HX1.out.trans HXR.out⟩
 have hI : (i : Int) < (N : Int) := by omega
 obtain ⟨x, hx⟩ : ∃ x, secs[i]? = some x := ⟨_, List.getElem?_eq_getElem (by have := HL.out; omega)⟩
 obtain ⟨bs, os, cs, rfl, hbs, _, hrep, hcs⟩ := Lay.row_at HR.out hx
 obtain ⟨A1, n1, c1, A2, n2, c2, rfl, _, _, _, _⟩ := kSe_rep.1 hrep
 have e0 := (HXR.out.cells.1 _ _ hbs).trans (hcs 0 _ rfl)
 rw [kSe_sz, Nat.add_zero] at e0
 have HX := Hd hx
 clear hrep hcs hx hbs
 obtain ⟨r, hr⟩ : ∃ r, (x.ent == e) = r := ⟨_, rfl⟩
 have HRR := Hd hr
 have hwi : IntKind.i64.wrap ((i : Int) + 1) = (i : Int) + 1 := IntWalk.i64_in _ (by omega)
 cases r with
 | true =>
  obtain rfl := HYES.out i x HX.out HRR.out HNR.out
  go_wp2_with fail
  go_ret
  exact ⟨rfl, HX1.out.trans HXR.out⟩
 | false =>
  go_wp2_with fail
  go_roundw
  case rel => exact ⟨i + 1, by omega, by simp, take_nf HNR.out HX.out HRR.out, HXR.out⟩
  case measure => simp only [toM]; omega
set_option maxHeartbeats 4000000 in
set_option maxRecDepth 100000 in
theorem text59_any (P : Nat → Prop) (w : World) (b : Bk) (e v : Int) (A : Option Addr) (N c : Nat) (hr : kSe.row w P A N b.secs) (hN : N ≤ 1000000) (hV : ∀ x ∈ b.secs, x.texts.length ≤ 1000000) (hv : ∀ x ∈ b.secs, x.vers.length = x.texts.length) :
  Calls Tryz.prog 59 #[.agg #[.int .i64 b.ms, .int .i64 b.ht, .slice A N c], .int .i64 e, .int .i64 v] w (TxGet P w (textB b e v)) := by
 obtain ⟨z, hz⟩ : ∃ z, w.heap.size = z := ⟨_, rfl⟩
 obtain ⟨w0, hw0⟩ : ∃ w0, (w.alloc (.cells #[.int .i64 b.ms, .int .i64 b.ht, .slice A N c] 27)).alloc (.cells #[.slice none 0 0, .slice none 0 0] 53) = w0 := ⟨_, rfl⟩
 have hx0 : Ext w w0 := by rw [← hw0]; exact ((Ext.refl w).alloc _).alloc _
 have hB0 : w0.heap[z]? = some (.cells #[.int .i64 b.ms, .int .i64 b.ht, .slice A N c] 27 (0, 0)) := by
  rw [← hw0, ← hz, haO _ _ _ (by simp)]; exact heap_alloc_new _ _
 have hB1 : TbxB (z + 1) (.slice none 0 0) (.slice none 0 0) w0 := ⟨by rw [← hw0, ← hz]; exact haA _ _ _ _ (by simp)⟩
 have HX0 := Hd hx0
 have HZ := Hd (show w.heap.size ≤ z + 1 by omega)
 have HB0 := Hd hB0
 have HB1 := Hd hB1
 have HR := Hd (Lay.row_ext (Lay.row_mono hr (Q := fun j => P j ∧ j < w.heap.size) fun _ hj hl => ⟨hj, hl⟩) hx0)
 have HRL := Hd (Lay.row_len hr)
 have HFI := Hd (find117_any P w0 b.ms b.ht e b.secs A N c (Lay.row_ext hr hx0) hN)
 have HCA := Hd (textB_cases b hv e v)
 have HVL := Hd (fun x (hx : x ∈ b.secs) => And.intro (hv x hx) (hV x hx))
 have a0 := cof hB0 (i := 0) rfl
 have a1 := cof hB0 (i := 1) rfl
 have a2 := cof hB0 (i := 2) rfl
 obtain ⟨o, ho⟩ : ∃ o, textB b e v = o := ⟨_, rfl⟩
 rw [ho] at HCA ⊢
 clear hr hN hV hv hx0 hB0 hB1 ho
 go_enter Tryz.func59, Tryz.ntmps59
 go_upto_region 1 with (fail)
 clear hw0 hz
 have HT2 := Hd (fun X (hX : Ext w0 X) => (show TbxB (z + 1) (.slice none 0 0) (.slice none 0 0) X from ⟨(hX.block _ (lt_of_block HB1.out.b)).trans HB1.out.b⟩))
 rcases HCA.out with ⟨hi, rfl⟩ | ⟨i, x, hi, hx, hk⟩
 ·obtain ⟨q, hq⟩ : ∃ q, idxI (fun x => x.ent == e) b.secs = q := ⟨_, rfl⟩
  rw [hq] at HFI hi
  clear hq HCA
  go_upto_region 3 with (first | (go_at_call 117; refine (HFI.out).mono ?_; rintro r w2 ⟨rfl, hx2⟩; have HX2 := Hd hx2; clear hx2))
  have hT2 := HT2.out w2 HX2.out
  have f0 := fof hT2.b 0
  have f1 := fof hT2.b 1
  have e0 := cof hT2.b (i := 0) rfl
  have e1 := cof hT2.b (i := 1) rfl
  go_wp2_with fail
  obtain ⟨Y, hY⟩ : ∃ Y, (w2.setCell ⟨z + 1, 0, none⟩ (.slice none 0 0)).setCell ⟨z + 1, 1, none⟩ (.slice none 0 0) = Y := ⟨_, rfl⟩
  obtain ⟨g1, g2, _⟩ := hT2.set (w := w) HZ.out (HX0.out.trans HX2.out) (.slice none 0 0) (.slice none 0 0)
  rw [hY] at g1 g2 ⊢
  have q0 := cof g1.b (i := 0) rfl
  have q1 := cof g1.b (i := 1) rfl
  refine bodyPost_ret (v := .tuple #[.agg #[.slice none 0 0, .slice none 0 0], .bool false]) (by simp [results, Tryz.results59, go_sem, q0, q1]) rfl ?_
  exact TxGet.no g2
 rw [hi] at HFI
 have hiN : (i : Int) < (N : Int) := by have := (List.getElem?_eq_some_iff.1 hx).1; have := HRL.out; omega
 have hi0 : ¬ ((i : Int) < 0) := by omega
 obtain ⟨bs, os, cs, rfl, hbs, _, hrep, hcs⟩ := Lay.row_at HR.out hx
 obtain ⟨A1, n1, c1, A2, n2, c2, rfl, hn1, hn2, rv, rt⟩ := kSe_rep.1 hrep
 have HVX := Hd (HVL.out x (List.mem_of_getElem? hx))
 have HLV := Hd (Lay.row_len rv)
 have HLT := Hd (Lay.row_len rt)
 have HRV := Hd rv
 have HRT := Hd rt
 have HKC := Hd hk
 have HSC := Hd (fun X (hX : Ext w0 X) => (show X.cell? ⟨bs, os + i * 4, none⟩ = some (.int .i64 x.ent) ∧ X.cell? ⟨bs, os + i * 4 + 1, none⟩ = some (.bool x.fz) ∧ X.cell? ⟨bs, os + i * 4 + 2, none⟩ = some (.slice A1 n1 c1) ∧ X.cell? ⟨bs, os + i * 4 + 3, none⟩ = some (.slice A2 n2 c2) ∧ X.cell? ⟨z, 2, none⟩ = some (.slice (some ⟨bs, os, none⟩) N c) from by
  have s0 := hcs 0 _ rfl
  have s1 := hcs 1 _ rfl
  have s2 := hcs 2 _ rfl
  have s3 := hcs 3 _ rfl
  rw [kSe_sz] at s0 s1 s2 s3
  rw [Nat.add_zero] at s0
  exact ⟨(hX.cells.1 bs _ hbs).trans s0, (hX.cells.1 bs _ hbs).trans s1, (hX.cells.1 bs _ hbs).trans s2, (hX.cells.1 bs _ hbs).trans s3, cof ((hX.block _ (lt_of_block HB0.out)).trans HB0.out) (i := 2) rfl⟩))
 have hnt : n2 ≤ 1000000 := by have := HLT.out; have := HVX.out; omega
 have HNN := Hd (show n1 = n2 by have := HLT.out; have := HVX.out; have := HLV.out; omega)
 clear hrep hcs rv rt hi hx hk HCA hn1 hn2 hbs
 go_upto_region 4 with (first | (go_at_call 117; refine (HFI.out).mono ?_; rintro r w2 ⟨rfl, hx2⟩; have HX2 := Hd hx2; clear hx2))
 clear a0 a1 a2
 obtain ⟨s0, s1, s2, s3, a2⟩ := HSC.out w2 HX2.out
 go_upto_region 6 with (fail)
 obtain ⟨w3, hw3⟩ : ∃ w3, w2.alloc (.cells #[.int .i64 x.ent, .bool x.fz, .slice A1 n1 c1, .slice A2 n2 c2] 46) = w3 := ⟨_, rfl⟩
 obtain ⟨z9, hz9⟩ : ∃ z9, w2.heap.size = z9 := ⟨_, rfl⟩
 have hx3 : Ext w2 w3 := by rw [← hw3]; exact (Ext.refl w2).alloc _
 have hB3 : w3.heap[z9]? = some (.cells #[.int .i64 x.ent, .bool x.fz, .slice A1 n1 c1, .slice A2 n2 c2] 46 (0, 0)) := by rw [← hw3, ← hz9]; exact heap_alloc_new _ _
 rw [hw3, hz9]
 have HB3 := Hd hB3
 have HX3 := Hd (HX2.out.trans hx3)
 clear s0 s1 s2 s3 a2 hw3 hz9 hx3 hB3
 go_wp2_with fail
 go_loopw [10] (fun s10 W => FdL w3 n1 (fun k => ∀ u ∈ x.vers.take k, (u == v) = false) s10 W) (fun s10 _ => toM n1 s10)
 case atStart => exact ⟨0, Nat.zero_le _, rfl, (fun y hy => by simp at hy), Ext.refl _⟩
 obtain ⟨k, hk, rfl, hno, hxr⟩ := hrel
 have HXR := Hd (HX3.out.trans hxr)
 have HXQ := Hd hxr
 have HNR := Hd hno
 have hB9 := (hxr.block _ (lt_of_block HB3.out)).trans HB3.out
 have b2 := cof hB9 (i := 2) rfl
 have b3 := cof hB9 (i := 3) rfl
 have hT2 := HT2.out wr HXR.out
 have f0 := fof hT2.b 0
 have f1 := fof hT2.b 1
 have e0 := cof hT2.b (i := 0) rfl
 have e1 := cof hT2.b (i := 1) rfl
 clear hxr hno hB9
 by_cases hlt : k < n1
 case neg =>
  have hI : ¬ (k : Int) < (n1 : Int) := by omega
  have h9 := HNR.out
  rw [List.take_of_length_le (by have := HLV.out; omega)] at h9
  have hon : o = none := by
   rcases HKC.out with ⟨_, h8⟩ | ⟨k', t, h7, h6, _, _⟩
   ·exact h8
   ·have h5 := h9 v (List.mem_of_getElem? h6)
    simp at h5
  subst hon
  clear h9
  go_wp2_with fail
  obtain ⟨Y, hY⟩ : ∃ Y, (wr.setCell ⟨z + 1, 0, none⟩ (.slice none 0 0)).setCell ⟨z + 1, 1, none⟩ (.slice none 0 0) = Y := ⟨_, rfl⟩
  obtain ⟨g1, g2, _⟩ := hT2.set (w := w) HZ.out (HX0.out.trans HXR.out) (.slice none 0 0) (.slice none 0 0)
  rw [hY] at g1 g2 ⊢
  have q0 := cof g1.b (i := 0) rfl
  have q1 := cof g1.b (i := 1) rfl
  refine bodyPost_ret (v := .tuple #[.agg #[.slice none 0 0, .slice none 0 0], .bool false]) (by simp [results, Tryz.results59, go_sem, q0, q1]) rfl ?_
  exact TxGet.no g2
 have hI : (k : Int) < (n1 : Int) := by omega
 have hI2 : (k : Int) < (n2 : Int) := by have := HNN.out; omega
 obtain ⟨u, hu⟩ : ∃ u, x.vers[k]? = some u := ⟨_, List.getElem?_eq_getElem (by have := HLV.out; omega)⟩
 obtain ⟨t, ht⟩ : ∃ t, x.texts[k]? = some t := ⟨_, List.getElem?_eq_getElem (by have := HLT.out; have := HNN.out; omega)⟩
 obtain ⟨bv, ov, cv, rfl, hbv, _, hrv, hcv⟩ := Lay.row_at HRV.out hu
 obtain rfl : cv = [.int .i64 u] := hrv
 have v0 := (HXR.out.cells.1 _ _ hbv).trans (hcv 0 _ rfl)
 rw [show kInt.sz = 1 from rfl, Nat.mul_one, Nat.add_zero] at v0
 have HU := Hd hu
 obtain ⟨r, hr⟩ : ∃ r, (u == v) = r := ⟨_, rfl⟩
 have HRR := Hd hr
 have hwi : IntKind.i64.wrap ((k : Int) + 1) = (k : Int) + 1 := IntWalk.i64_in _ (by omega)
 clear hu hcv hbv
 cases r with
 | false =>
  clear ht
  go_wp2_with fail
  go_roundw
  case rel => exact ⟨k + 1, by omega, by simp, take_nf HNR.out HU.out HRR.out, HXQ.out⟩
  case measure => simp only [toM]; omega
 | true =>
  obtain ⟨bt, ot, ct, rfl, hbt, _, hrept, hct⟩ := Lay.row_at HRT.out ht
  obtain ⟨A5, n5, c5, A6, n6, c6, rfl, hn5, hn6, r5, r6⟩ := kTx_rep.1 hrept
  have t0 := (HXR.out.cells.1 _ _ hbt).trans (hct 0 _ rfl)
  have t1 := (HXR.out.cells.1 _ _ hbt).trans (hct 1 _ rfl)
  rw [kTx_sz] at t0 t1
  rw [Nat.add_zero] at t0
  have hox : o = some t := by
   have h9 := idxI_here (fun y : Int => y == v) x.vers k u HU.out HRR.out HNR.out
   rcases HKC.out with ⟨h7, _⟩ | ⟨k', t', h7, _, h5, h4⟩
   ·rw [h9] at h7; omega
   ·rw [h9] at h7
    obtain rfl : k = k' := by omega
    rw [ht] at h5
    injection h5 with h5
    rw [h4, h5]
  subst hox
  have HR5 := Hd r5
  have HR6 := Hd r6
  have HN56 := Hd (And.intro hn5 hn6)
  clear hrept hct r5 r6 ht hbt hn5 hn6
  go_wp2_with fail
  obtain ⟨Y, hY⟩ : ∃ Y, (wr.setCell ⟨z + 1, 0, none⟩ (.slice A5 n5 c5)).setCell ⟨z + 1, 1, none⟩ (.slice A6 n6 c6) = Y := ⟨_, rfl⟩
  obtain ⟨g1, g2, g3⟩ := hT2.set (w := w) HZ.out (HX0.out.trans HXR.out) (.slice A5 n5 c5) (.slice A6 n6 c6)
  have hsz : ((wr.setCell ⟨z + 1, 0, none⟩ (.slice A5 n5 c5)).setCell ⟨z + 1, 1, none⟩ (.slice A6 n6 c6)).heap.size = wr.heap.size := by simp
  rw [hY] at g1 g2 g3 hsz ⊢
  have q0 := cof g1.b (i := 0) rfl
  have q1 := cof g1.b (i := 1) rfl
  refine bodyPost_ret (v := .tuple #[.agg #[.slice A5 n5 c5, .slice A6 n6 c6], .bool true]) (by simp [results, Tryz.results59, go_sem, q0, q1]) rfl ?_
  exact ⟨A5, n5, c5, A6, n6, c6, rfl, HN56.out.1, HN56.out.2, Lay.row_mono (Lay.row_keep HR5.out (by have := HX0.out.lt; have := HXR.out.lt; omega) fun j hj _ => (g2.block j hj.2).trans (HX0.out.block j hj.2).symm) fun _ hj _ => hj.1, Lay.row_mono (Lay.row_keep HR6.out (by have := HX0.out.lt; have := HXR.out.lt; omega) fun j hj _ => (g2.block j hj.2).trans (HX0.out.block j hj.2).symm) fun _ hj _ => hj.1, g2⟩
end
section
open Go Go.RowKit
attribute [local go_sem] Oper.semAt_some
def BtR (w : World) (g : Nat) (s3 s4 : Value) (W : World) : Prop := ∃ (i v : Nat), i ≤ g ∧ s4 = .int .i64 i ∧ s3 = .int .i64 v ∧ 1 ≤ v ∧ v ≤ 2 ^ i ∧ W = w
set_option maxHeartbeats 4000000 in
set_option maxRecDepth 100000 in
theorem bit119_any (w : World) (g : Nat) (hg : g ≤ 15) : Calls Tryz.prog 119 #[.int .i64 g] w fun e w' => ∃ v : Nat, e = .returned (.int .i64 v) ∧ 1 ≤ v ∧ v ≤ 32768 ∧ w' = w := by
 go_enter Tryz.func119, Tryz.ntmps119
 go_wp2_with fail
 go_loopw [3, 4] (fun s3 s4 W => BtR w g s3 s4 W) (fun _ s4 _ => toM g s4)
 case atStart => exact ⟨0, 1, Nat.zero_le _, rfl, rfl, Nat.le_refl _, Nat.le_refl _, rfl⟩
 obtain ⟨i, v, hi, rfl, rfl, h1, h2, rfl⟩ := hrel
 have h3 : 2 ^ i ≤ 32768 := Nat.le_trans (Nat.pow_le_pow_right (by omega) (show i ≤ 15 by omega)) (by decide)
 by_cases hlt : i < g
 case neg =>
  have hI : ¬ (i : Int) < (g : Int) := by omega
  have HV := Hd (show 1 ≤ v ∧ v ≤ 32768 by omega)
  clear h1 h2 h3
  go_wp2_with fail
  go_ret
  exact ⟨v, rfl, HV.out.1, HV.out.2, rfl⟩
 have hI : (i : Int) < (g : Int) := by omega
 have HV := Hd (show 1 ≤ 2 * v ∧ 2 * v ≤ 2 ^ (i + 1) by rw [Nat.pow_succ]; omega)
 have hwv : IntKind.i64.wrap (2 * (v : Int)) = 2 * (v : Int) := IntWalk.i64_in _ (by omega)
 have hwi : IntKind.i64.wrap ((i : Int) + 1) = (i : Int) + 1 := IntWalk.i64_in _ (by omega)
 clear h1 h2 h3
 go_wp2_with fail
 go_roundw
 case rel => exact ⟨i + 1, 2 * v, by omega, by simp, by simp, HV.out.1, HV.out.2, rfl⟩
 case measure => simp only [toM]; omega
def cvG (e v k : Int) (g : Int) (s : Sea) : Bool := decide (s.gr = g) && covS s e v k
def GoR (w : World) (e v k : Int) (ls : List Sea) (s9 s10 : Value) (W : World) : Prop := ∃ (g out : Nat), g ≤ 16 ∧ s10 = .int .i64 g ∧ s9 = .int .i64 out ∧ out ≤ 32768 * g ∧ (out = 0 ↔ ∀ s ∈ ls, covS s e v k = true → (g : Int) ≤ s.gr) ∧ Ext w W
def GiR (w : World) (e v k : Int) (ls : List Sea) (g : Nat) (s11 s12 : Value) (W : World) : Prop := ∃ (i : Nat) (f : Bool), i ≤ ls.length ∧ s12 = .int .i64 i ∧ s11 = .bool f ∧ (ls.take i).any (cvG e v k g) = f ∧ Ext w W
set_option maxHeartbeats 8000000 in
set_option maxRecDepth 100000 in
theorem groups61_any (P : Nat → Prop) (w : World) (A : Option Addr) (n c : Nat) (ls : List Sea) (e v k : Int) (h : kSea.row w P A n ls) (hn : n ≤ 1000000) (hg : ∀ s ∈ ls, OkSea s) :
  Calls Tryz.prog 61 #[.slice A n c, .int .i64 e, .int .i64 v, .int .i64 k] w fun z w' => ∃ g : Int, z = .returned (.int .i64 g) ∧ (g = 0 ↔ seald ls e v k = false) ∧ Ext w w' := by
 have HR := Hd h
 have HL := Hd (Lay.row_len h)
 have HGS := Hd hg
 clear h hg
 go_enter Tryz.func61, Tryz.ntmps61
 go_wp2_with fail
 go_loopw [9, 10] (fun s9 s10 W => GoR w e v k ls s9 s10 W) (fun _ s10 _ => toM 16 s10)
 case atStart => exact ⟨0, 0, by omega, rfl, rfl, by omega, ⟨fun _ s hs _ => (HGS.out s hs).1, fun _ => rfl⟩, Ext.refl _⟩
 obtain ⟨g, out, hg, rfl, rfl, ho, hoz, hxr⟩ := hrel
 have HOZ := Hd hoz
 have HXR := Hd hxr
 clear hoz hxr
 by_cases hlt : g < 16
 case neg =>
  obtain rfl : g = 16 := by omega
  have HF := Hd (show (out : Int) = 0 ↔ seald ls e v k = false from by
   rw [show ((out : Int) = 0) = (out = 0) from by simp, HOZ.out]
   constructor
   ·intro h9
    unfold seald
    rw [List.any_eq_false]
    intro s hs hc
    have := h9 s hs (by simpa using hc)
    have := (HGS.out s hs).2
    omega
   ·intro h9 s hs hc
    unfold seald at h9
    have h8 := List.any_eq_false.1 h9 s hs
    rw [hc] at h8
    exact absurd rfl h8)
  go_wp2_with fail
  go_ret
  exact ⟨out, rfl, HF.out, HXR.out⟩
 have hI : (g : Int) < 16 := by omega
 have hg15 : g ≤ 15 := by omega
 have hwg : IntKind.i64.wrap ((g : Int) + 1) = (g : Int) + 1 := IntWalk.i64_in _ (by omega)
 go_wp2_with fail
 go_loopw [11, 12] (fun s11 s12 W => GiR w e v k ls g s11 s12 W) (fun _ s12 _ => toM n s12)
 case atStart => exact ⟨0, false, Nat.zero_le _, rfl, rfl, rfl, HXR.out⟩
 rename World => wp
 obtain ⟨i, f, hi, rfl, rfl, hf, hxk⟩ := hrel
 have HF := Hd hf
 have HXK := Hd hxk
 have hin : i ≤ n := by have := HL.out; omega
 clear hf hxk hi
 by_cases hlt2 : i < n
 case neg =>
  have hI2 : ¬ (i : Int) < (n : Int) := by omega
  have hall := HF.out
  rw [List.take_of_length_le (by have := HL.out; omega)] at hall
  have HNO := Hd (fun (h0 : f = false) => show (out = 0 ↔ ∀ s ∈ ls, covS s e v k = true → ((g + 1 : Nat) : Int) ≤ s.gr) from by
   subst h0
   rw [HOZ.out]
   rw [List.any_eq_false] at hall
   refine ⟨fun h9 s hs hc => ?_, fun h9 s hs hc => by have := h9 s hs hc; omega⟩
   have h7 := h9 s hs hc
   have h8 := hall s hs
   unfold cvG at h8
   rw [hc, Bool.and_true, decide_eq_true_eq] at h8
   omega)
  have HYES := Hd (fun (h0 : f = true) (q : Nat) (hq : 1 ≤ q) => show (out + q = 0 ↔ ∀ s ∈ ls, covS s e v k = true → ((g + 1 : Nat) : Int) ≤ s.gr) from by
   subst h0
   obtain ⟨s, hs, hc⟩ := List.any_eq_true.1 hall
   unfold cvG at hc
   simp only [Bool.and_eq_true, decide_eq_true_eq] at hc
   refine ⟨fun h9 => by omega, fun h9 => ?_⟩
   have := h9 s hs hc.2
   omega)
  clear hall
  cases f with
  | false =>
   go_wp2_with fail
   go_roundw
   case rel => exact ⟨g + 1, out, by omega, by simp, rfl, by omega, HNO.out (by trivial), HXK.out⟩
   case measure => simp only [toM]; omega
  | true =>
   have HB := Hd (bit119_any wp g hg15)
   go_wp2_with (first | (go_at_call 119; refine (HB.out).mono ?_; rintro z9 w9 ⟨q, rfl, hq1, hq2, rfl⟩; have hwo : IntKind.i64.wrap ((out : Int) + (q : Int)) = (out : Int) + (q : Int) := IntWalk.i64_in _ (by omega); have HQ1 := Hd hq1; have HQ2 := Hd hq2))
   go_roundw
   case rel => exact ⟨g + 1, out + q, by omega, by simp, by simp, by have := HQ2.out; omega, HYES.out (by trivial) q HQ1.out, HXK.out⟩
   case measure => simp only [toM]; omega
 have hI2 : (i : Int) < (n : Int) := by omega
 obtain ⟨s, hs⟩ : ∃ s, ls[i]? = some s := ⟨_, List.getElem?_eq_getElem (by have := HL.out; omega)⟩
 obtain ⟨bs, os, rfl, hbs, c0, c1, c2, c3, c4⟩ := sea_at HR.out hs
 have c0 := (HXK.out.cells.1 _ _ hbs).trans c0
 have c1 := (HXK.out.cells.1 _ _ hbs).trans c1
 have c2 := (HXK.out.cells.1 _ _ hbs).trans c2
 have c3 := (HXK.out.cells.1 _ _ hbs).trans c3
 have c4 := (HXK.out.cells.1 _ _ hbs).trans c4
 have HNX := Hd (fun r (hr : cvG e v k g s = r) => show (ls.take (i + 1)).any (cvG e v k g) = (f || r) from by
  rw [List.take_add_one, hs, List.any_append, HF.out]
  simp only [Option.toList_some, List.any_cons, List.any_nil, Bool.or_false]
  rw [hr])
 have hwi : IntKind.i64.wrap ((i : Int) + 1) = (i : Int) + 1 := IntWalk.i64_in _ (by omega)
 have hil : i + 1 ≤ ls.length := by have := HL.out; omega
 clear hs hbs
 go_upto_region 10 with (fail)
 clear c0 c1 c2 c3 c4
 obtain ⟨w3, hw3⟩ : ∃ w3, wp.alloc (.cells #[.int .i64 s.ent, .int .i64 s.ver, .int .i64 s.fr, .int .i64 s.un, .int .i64 s.gr] 48) = w3 := ⟨_, rfl⟩
 obtain ⟨z3, hz3⟩ : ∃ z3, wp.heap.size = z3 := ⟨_, rfl⟩
 have hx3 : Ext wp w3 := by rw [← hw3]; exact (Ext.refl wp).alloc _
 have hB3 : w3.heap[z3]? = some (.cells #[.int .i64 s.ent, .int .i64 s.ver, .int .i64 s.fr, .int .i64 s.un, .int .i64 s.gr] 48 (0, 0)) := by rw [← hw3, ← hz3]; exact heap_alloc_new _ _
 rw [hw3, hz3]
 have c0 := cof hB3 (i := 0) rfl
 have c1 := cof hB3 (i := 1) rfl
 have c2 := cof hB3 (i := 2) rfl
 have c3 := cof hB3 (i := 3) rfl
 have c4 := cof hB3 (i := 4) rfl
 have HX3 := Hd (HXK.out.trans hx3)
 clear hx3 hB3 hw3 hz3
 cases f with
 | true =>
  go_wp2_with fail
  go_roundw
  case rel => exact ⟨i + 1, true, hil, by simp, rfl, HNX.out _ rfl, HX3.out⟩
  case measure => simp only [toM]; omega
 | false =>
 by_cases h1 : s.gr = (g : Int)
 case neg =>
  have b1 : (s.gr == (g : Int)) = false := by simpa using h1
  have HR0 := Hd (HNX.out false (by unfold cvG; simp [h1]))
  clear h1
  go_wp2_with fail
  go_roundw
  case rel => exact ⟨i + 1, false, hil, by simp, rfl, HR0.out, HX3.out⟩
  case measure => simp only [toM]; omega
 have b1 : (s.gr == (g : Int)) = true := by simpa using h1
 by_cases h2 : s.ent = e
 case neg =>
  have b2 : (s.ent == e) = false := by simpa using h2
  have HR0 := Hd (HNX.out false (by unfold cvG covS; simp [h2]))
  clear h1 h2
  go_wp2_with fail
  go_roundw
  case rel => exact ⟨i + 1, false, hil, by simp, rfl, HR0.out, HX3.out⟩
  case measure => simp only [toM]; omega
 have b2 : (s.ent == e) = true := by simpa using h2
 by_cases h3 : s.ver = v
 case neg =>
  have b3 : (s.ver == v) = false := by simpa using h3
  have HR0 := Hd (HNX.out false (by unfold cvG covS; simp [h3]))
  clear h1 h2 h3
  go_wp2_with fail
  go_roundw
  case rel => exact ⟨i + 1, false, hil, by simp, rfl, HR0.out, HX3.out⟩
  case measure => simp only [toM]; omega
 have b3 : (s.ver == v) = true := by simpa using h3
 by_cases h4 : s.fr ≤ k
 case neg =>
  have b4 : k < s.fr := by omega
  have HR0 := Hd (HNX.out false (by unfold cvG covS; simp [h4]))
  clear h1 h2 h3
  go_wp2_with fail
  go_roundw
  case rel => exact ⟨i + 1, false, hil, by simp, rfl, HR0.out, HX3.out⟩
  case measure => simp only [toM]; omega
 by_cases h5 : k < s.un
 case neg =>
  have HR0 := Hd (HNX.out false (by unfold cvG covS; simp [h5]))
  clear h1 h2 h3
  go_wp2_with fail
  go_roundw
  case rel => exact ⟨i + 1, false, hil, by simp, rfl, HR0.out, HX3.out⟩
  case measure => simp only [toM]; omega
 have HR1 := Hd (HNX.out true (by unfold cvG covS; simp [h1, h2, h3, h4, h5]))
 clear h1 h2 h3
 go_wp2_with fail
 go_roundw
 case rel => exact ⟨i + 1, true, hil, by simp, rfl, HR1.out, HX3.out⟩
 case measure => simp only [toM]; omega
end
section
open Go Go.RowKit
def RnO (S : ByteArray) (c : UInt8) (b : Bool) (w : World) (s5 : Value) (w' : World) : Prop :=
 ∃ i : Nat, i ≤ S.size ∧ s5 = .int .i64 i ∧ (S.data.toList.drop i).contains c = b ∧ w = w'
theorem ret_b {a b : Bool} (h : a = b) : Ending.returned (.bool a) = .returned (.bool b) := by rw [h]
set_option maxHeartbeats 4000000 in
set_option maxRecDepth 100000 in
theorem rin_any (c : UInt8) (S : ByteArray) (w : World) (hS : S.size ≤ 1000) (b : Bool) (hb : S.data.toList.contains c = b) : Calls Tryz.prog 246 #[.int .u8 c.toNat, .string S] w (fun e w' => e = .returned (.bool b) ∧ w' = w) := by
 have HB := Hd hb
 clear hb
 go_enter Tryz.func246, Tryz.ntmps246
 go_wp2
 go_loopw [5] (fun s5 w' => RnO S c b w s5 w') (fun s5 _ => toM S.size s5)
 case atStart => exact ⟨0, by omega, rfl, HB.out, rfl⟩
 obtain ⟨i, hi, rfl, hr, rfl⟩ := hrel
 have HR := Hd hr
 clear hr
 by_cases hlt : i < S.size
 case neg =>
  obtain rfl : i = S.size := by omega
  have hni : ¬ ((S.size : Int) < (S.size : Int)) := by omega
  have HF := Hd (show b = false by rw [← HR.out, List.drop_of_length_le (by rw [list_size]; omega)]; rfl)
  go_wp2
  go_ret
  exact ⟨ret_b HF.out.symm, rfl⟩
 have hI : (i : Int) < (S.size : Int) := by omega
 obtain ⟨d, hd⟩ : ∃ d, d = S[i]'hlt := ⟨_, rfl⟩
 have hgl := get_list S i hlt
 rw [← hd] at hgl
 have HD := Hd hgl
 clear hgl
 by_cases hz : c = d
 ·have HF := Hd (show b = true by
   rw [← HR.out, HD.out, hz]; simp)
  have hz2 : ((S[i]'hlt).toNat : Int) = (c.toNat : Int) := by rw [hz, hd]
  clear hz hd
  go_wp2
  go_ret
  exact ⟨ret_b HF.out.symm, rfl⟩
 ·have HN := Hd (show (S.data.toList.drop (i + 1)).contains c = b by
   rw [← HR.out, HD.out, List.contains_cons]
   simp [hz])
  have hz2 : ¬ ((S[i]'hlt).toNat : Int) = (c.toNat : Int) := fun e => hz (by
   rw [hd]; exact (UInt8.toNat_inj.1 (by omega)).symm)
  clear hz hd
  go_wp2
  go_roundw
  case rel => exact ⟨i + 1, by omega, by simp, HN.out, rfl⟩
  case measure => simp only [toM]; omega
end
section
open Go Go.RowKit
def L1 : ByteArray := { data := #[105, 106, 108, 46, 44, 59, 58, 33, 124, 39] }
def L2 : ByteArray := { data := #[102, 114, 116, 73, 45, 47, 92, 40, 41, 123, 125] }
def L3 : ByteArray := { data := #[109, 119, 77, 87, 64, 37] }
def rgl (n : Nat) (b1 b2 b3 : Bool) : Int := if n < 33 ∨ 126 < n ∨ n = 91 ∨ n = 93 then 0 else if b1 = true ∨ n = 96 then 4 else if b2 = true ∨ n = 34 then 6 else if b3 = true then 12 else if 65 ≤ n ∧ n ≤ 90 ∨ n = 38 then 10 else 8
set_option maxRecDepth 100000 in
theorem rgl_widB (c : UInt8) : rgl c.toNat (L1.data.toList.contains c) (L2.data.toList.contains c) (L3.data.toList.contains c) = widB c := by
 have : ∀ i : Fin 256, rgl (UInt8.ofNat i.1).toNat (L1.data.toList.contains (UInt8.ofNat i.1)) (L2.data.toList.contains (UInt8.ofNat i.1)) (L3.data.toList.contains (UInt8.ofNat i.1)) = widB (UInt8.ofNat i.1) := by decide
 have h := this ⟨c.toNat, c.toNat_lt⟩
 simpa using h
set_option maxHeartbeats 4000000 in
set_option maxRecDepth 100000 in
theorem rglyph_any (c : UInt8) (w : World) : Calls Tryz.prog 235 #[.int .u8 c.toNat] w (fun e w' => e = .returned (.int .i64 (widB c)) ∧ w' = w) := by
 have HW := rgl_widB c
 obtain ⟨f, hf⟩ : ∃ f : ByteArray → Bool, ∀ S, S.data.toList.contains c = f S := ⟨_, fun _ => rfl⟩
 have HC := Hd (fun (S : ByteArray) (hS : S.size ≤ 1000) => rin_any c S w hS (f S) (hf S))
 rw [hf L1, hf L2, hf L3] at HW
 clear hf
 unfold L1 L2 L3 at HW
 obtain ⟨b1, e1⟩ : ∃ b, f { data := #[105, 106, 108, 46, 44, 59, 58, 33, 124, 39] } = b := ⟨_, rfl⟩
 obtain ⟨b2, e2⟩ : ∃ b, f { data := #[102, 114, 116, 73, 45, 47, 92, 40, 41, 123, 125] } = b := ⟨_, rfl⟩
 obtain ⟨b3, e3⟩ : ∃ b, f { data := #[109, 119, 77, 87, 64, 37] } = b := ⟨_, rfl⟩
 rw [e1, e2, e3] at HW
 have hc := c.toNat_lt
 obtain ⟨n, hn⟩ : ∃ n, c.toNat = n := ⟨_, rfl⟩
 rw [hn] at HW HC hc ⊢
 obtain ⟨v, hv⟩ : ∃ v, widB c = v := ⟨_, rfl⟩
 rw [hv] at HW ⊢
 clear hn hv
 unfold rgl at HW
 by_cases a1 : n < 33
 ·rw [if_pos (.inl a1)] at HW
  subst HW
  have a1' : (n : Int) < 33 := by omega
  go_enter Tryz.func235, Tryz.ntmps235
  go_wp2
  go_ret
  exact ⟨rfl, rfl⟩
 have a1' : ¬ (n : Int) < 33 := by omega
 by_cases a2 : 126 < n
 ·rw [if_pos (.inr (.inl a2))] at HW
  subst HW
  have a2' : (126 : Int) < (n : Int) := by omega
  go_enter Tryz.func235, Tryz.ntmps235
  go_wp2
  go_ret
  exact ⟨rfl, rfl⟩
 have a2' : ¬ (126 : Int) < (n : Int) := by omega
 by_cases a3 : n = 91
 ·subst a3
  have HW := HW
  simp at HW
  subst HW
  go_enter Tryz.func235, Tryz.ntmps235
  go_wp2
  go_ret
  exact ⟨rfl, rfl⟩
 have a3' : ¬ (n : Int) = 91 := by omega
 by_cases a4 : n = 93
 ·subst a4
  simp at HW
  subst HW
  go_enter Tryz.func235, Tryz.ntmps235
  go_wp2
  go_ret
  exact ⟨rfl, rfl⟩
 have a4' : ¬ (n : Int) = 93 := by omega
 rw [if_neg (by omega)] at HW
 have q0 : ((n : Int) == 91) = false := by rw [beq_eq_false_iff_ne]; exact a3'
 have q1 : ((n : Int) == 93) = false := by rw [beq_eq_false_iff_ne]; exact a4'
 clear a1 a2 a3 a4
 cases b1
 case true =>
  simp at HW
  subst HW
  go_enter Tryz.func235, Tryz.ntmps235
  go_wp2_with (first | (go_at_call 246; refine (HC.out _ (by decide)).mono ?_; rintro e w1 ⟨rfl, rfl⟩))
  go_ret
  exact ⟨rfl, rfl⟩
 by_cases a5 : n = 96
 ·subst a5
  simp at HW
  subst HW
  go_enter Tryz.func235, Tryz.ntmps235
  go_wp2_with (first | (go_at_call 246; refine (HC.out _ (by decide)).mono ?_; rintro e w1 ⟨rfl, rfl⟩))
  go_ret
  exact ⟨rfl, rfl⟩
 have a5' : ¬ (n : Int) = 96 := by omega
 have a5q : ((n : Int) == 96) = false := by rw [beq_eq_false_iff_ne]; exact a5'
 cases b2
 case true =>
  simp [a5] at HW
  subst HW
  go_enter Tryz.func235, Tryz.ntmps235
  go_wp2_with (first | (go_at_call 246; refine (HC.out _ (by decide)).mono ?_; rintro e w1 ⟨rfl, rfl⟩))
  go_ret
  exact ⟨rfl, rfl⟩
 by_cases a6 : n = 34
 ·subst a6
  simp at HW
  subst HW
  go_enter Tryz.func235, Tryz.ntmps235
  go_wp2_with (first | (go_at_call 246; refine (HC.out _ (by decide)).mono ?_; rintro e w1 ⟨rfl, rfl⟩))
  go_ret
  exact ⟨rfl, rfl⟩
 have a6' : ¬ (n : Int) = 34 := by omega
 have a6q : ((n : Int) == 34) = false := by rw [beq_eq_false_iff_ne]; exact a6'
 cases b3
 case true =>
  simp [a5, a6] at HW
  subst HW
  go_enter Tryz.func235, Tryz.ntmps235
  go_wp2_with (first | (go_at_call 246; refine (HC.out _ (by decide)).mono ?_; rintro e w1 ⟨rfl, rfl⟩))
  go_ret
  exact ⟨rfl, rfl⟩
 simp only [a5, a6, Bool.false_eq_true, or_self, if_false] at HW
 by_cases a7 : 65 ≤ n
 ·have a7' : (65 : Int) ≤ (n : Int) := by omega
  by_cases a8 : n ≤ 90
  ·have a8' : (n : Int) ≤ 90 := by omega
   rw [if_pos (.inl ⟨a7, a8⟩)] at HW
   subst HW
   clear a5 a6 a7 a8
   go_enter Tryz.func235, Tryz.ntmps235
   go_wp2_with (first | (go_at_call 246; refine (HC.out _ (by decide)).mono ?_; rintro e w1 ⟨rfl, rfl⟩))
   go_ret
   exact ⟨rfl, rfl⟩
  have a8' : ¬ (n : Int) ≤ 90 := by omega
  have a9' : ¬ (n : Int) = 38 := by omega
  have a9q : ((n : Int) == 38) = false := by rw [beq_eq_false_iff_ne]; exact a9'
  rw [if_neg (by omega)] at HW
  subst HW
  clear a5 a6 a7 a8
  go_enter Tryz.func235, Tryz.ntmps235
  go_wp2_with (first | (go_at_call 246; refine (HC.out _ (by decide)).mono ?_; rintro e w1 ⟨rfl, rfl⟩))
  go_ret
  exact ⟨rfl, rfl⟩
 have a7' : ¬ (65 : Int) ≤ (n : Int) := by omega
 by_cases a9 : n = 38
 ·subst a9
  simp at HW
  subst HW
  go_enter Tryz.func235, Tryz.ntmps235
  go_wp2_with (first | (go_at_call 246; refine (HC.out _ (by decide)).mono ?_; rintro e w1 ⟨rfl, rfl⟩))
  go_ret
  exact ⟨rfl, rfl⟩
 have a9' : ¬ (n : Int) = 38 := by omega
 have a9q : ((n : Int) == 38) = false := by rw [beq_eq_false_iff_ne]; exact a9'
 rw [if_neg (by omega)] at HW
 subst HW
 clear a5 a6 a7 a9
 go_enter Tryz.func235, Tryz.ntmps235
 go_wp2_with (first | (go_at_call 246; refine (HC.out _ (by decide)).mono ?_; rintro e w1 ⟨rfl, rfl⟩))
 go_ret
 exact ⟨rfl, rfl⟩
end
end Go.Proofs.YtdbnddmncbjobaaGreatDoor