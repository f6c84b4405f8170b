/- book.Text: walked. -/
import Derived.Test.YtdbnddmncbjobaaGreatDoorMbd
namespace Go.Proofs.YtdbnddmncbjobaaGreatDoor
section
open Go Go.RowKit
attribute [local go_sem] Oper.semAt_some
theorem find_idx {α : Type} (p : α → Bool) : ∀ xs : List α, xs.find? p = if 0 ≤ idxI p xs then xs[(idxI p xs).toNat]? else none
 | [] => rfl
 | x :: r => by
  have ih := find_idx p r
  rw [List.find?_cons, idxI]
  cases hp : p x with
  | true => simp
  | false =>
   simp only [Bool.false_eq_true, if_false]
   rw [ih]
   cases hi : idxI p r with
   | ofNat i =>
    have h1 : (0 : Int) ≤ Int.ofNat i := Int.natCast_nonneg i
    have h2 : (0 : Int) ≤ (i : Int) + 1 := by omega
    simp only [if_pos h1]
    rw [if_pos h2, show ((i : Int) + 1).toNat = i + 1 by omega]
    rfl
   | negSucc i =>
    rw [if_neg (by omega)]
    exact (if_neg (show ¬ (0 : Int) ≤ -1 by omega)).symm
theorem zip_idx (v : Int) : ∀ (vs : List Int) (ts : List Tx), vs.length = ts.length → ((vs.zip ts).find? fun q => q.1 == v).map (·.2) = if 0 ≤ idxI (fun u => u == v) vs then ts[(idxI (fun u => u == v) vs).toNat]? else none
 | [], _, _ => rfl
 | _ :: _, [], h => by simp at h
 | a :: vs, t :: ts, h => by
  have ih := zip_idx v vs ts (by simpa using h)
  rw [List.zip_cons_cons, List.find?_cons, idxI]
  cases hp : a == v with
  | true => simp
  | false =>
   simp only [Bool.false_eq_true, if_false]
   rw [ih]
   cases hi : idxI (fun u => u == v) vs with
   | ofNat i =>
    have h1 : (0 : Int) ≤ Int.ofNat i := Int.natCast_nonneg i
    have h2 : (0 : Int) ≤ (i : Int) + 1 := by omega
    simp only [if_pos h1]
    rw [if_pos h2, show ((i : Int) + 1).toNat = i + 1 by omega]
    rfl
   | negSucc i =>
    rw [if_neg (by omega)]
    exact (if_neg (show ¬ (0 : Int) ≤ -1 by omega)).symm
theorem textB_cases (b : Bk) (hv : ∀ x ∈ b.secs, x.vers.length = x.texts.length) (e v : Int) :
  (idxI (fun x => x.ent == e) b.secs < 0 ∧ textB b e v = none) ∨ ∃ (i : Nat) (x : Se), idxI (fun x => x.ent == e) b.secs = i ∧ b.secs[i]? = some x ∧
   ((idxI (fun u => u == v) x.vers < 0 ∧ textB b e v = none) ∨ ∃ (k : Nat) (t : Tx), idxI (fun u => u == v) x.vers = k ∧ x.vers[k]? = some v ∧ x.texts[k]? = some t ∧ textB b e v = some t) := by
 unfold textB
 rw [find_idx]
 by_cases h0 : 0 ≤ idxI (fun x => x.ent == e) b.secs
 ·obtain ⟨i, x, hi, hx, _⟩ := idxI_some _ _ h0
  refine .inr ⟨i, x, hi, hx, ?_⟩
  rw [if_pos h0, hi, Int.toNat_natCast, hx, Option.bind_some, zip_idx v x.vers x.texts (hv x (List.mem_of_getElem? hx))]
  by_cases h1 : 0 ≤ idxI (fun u => u == v) x.vers
  ·obtain ⟨k, u, hk, hu, huv⟩ := idxI_some _ _ h1
   have : u = v := by simpa using huv
   subst this
   obtain ⟨t, ht⟩ : ∃ t, x.texts[k]? = some t := ⟨_, List.getElem?_eq_getElem (by rw [← hv x (List.mem_of_getElem? hx)]; exact (List.getElem?_eq_some_iff.1 hu).1)⟩
   refine .inr ⟨k, t, hk, hu, ht, ?_⟩
   rw [if_pos h1, hk, Int.toNat_natCast, ht]
  ·exact .inl ⟨by omega, by rw [if_neg h1]⟩
 ·exact .inl ⟨by omega, by rw [if_neg h0]; rfl⟩
def TxGet (R : Nat → Prop) (w : World) (o : Option Tx) (e : Ending) (w' : World) : Prop := ∃ A n c A' n' c', e = .returned (.tuple #[.agg #[.slice A n c, .slice A' n' c'], .bool o.isSome]) ∧ n ≤ c ∧ n' ≤ c' ∧ kWs.row w' R A n (o.getD ⟨[], []⟩).paras ∧ kWs.row w' R A' n' (o.getD ⟨[], []⟩).notes ∧ Ext w w'
theorem TxGet.no {R : Nat → Prop} {w w' : World} (hx : Ext w w') : TxGet R w none (.returned (.tuple #[.agg #[.slice none 0 0, .slice none 0 0], .bool false])) w' :=
 ⟨none, 0, 0, none, 0, 0, rfl, Nat.le_refl _, Nat.le_refl _, Lay.row_nil _ _ _, Lay.row_nil _ _ _, hx⟩
structure TbxB (z : Nat) (u v : Value) (W : World) : Prop where
 b : W.heap[z]? = some (.cells #[u, v] 53 (0, 0))
theorem TbxB.set {z : Nat} {a b : Value} {W w : World} (h : TbxB z a b W) (hw : w.heap.size ≤ z) (hx : Ext w W) (u v : Value) :
  TbxB z u v ((W.setCell ⟨z, 0, none⟩ u).setCell ⟨z, 1, none⟩ v) ∧ Ext w ((W.setCell ⟨z, 0, none⟩ u).setCell ⟨z, 1, none⟩ v) ∧ ∀ j, j ≠ z → ((W.setCell ⟨z, 0, none⟩ u).setCell ⟨z, 1, none⟩ v).heap[j]? = W.heap[j]? :=
 ⟨⟨heap_setCell_same _ z 1 _ 53 _ (heap_setCell_same _ z 0 _ 53 _ h.b)⟩, (hx.setCell (p := ⟨z, 0, none⟩) hw _).setCell (p := ⟨z, 1, none⟩) hw _, fun j hj => by
  rw [heap_setCell_other _ ⟨z, 1, none⟩ j _ hj, heap_setCell_other _ ⟨z, 0, none⟩ j _ hj]⟩
set_option maxHeartbeats 4000000 in
set_option maxRecDepth 100000 in
theorem btext_any (P : Nat → Prop) (w : World) (b : Bk) (e v : Int) (A : Option Addr) (N c : Nat) (hr : kSe.row w P A N b.secs) (hs : BkS b.secs) (hv : ∀ x ∈ b.secs, x.vers.length = x.texts.length) :
  Calls Tryz.prog 52 #[.agg #[.int .i64 b.ms, .int .i64 b.ht, .slice A N c], .int .i64 e, .int .i64 v] w (TxGet (fun j => w.heap.size ≤ j) w (textB b e v)) := by
 obtain ⟨z, hz⟩ : ∃ z, w.heap.size = z := ⟨_, rfl⟩
 obtain ⟨w0, hw0⟩ : ∃ w0, (w.alloc (.cells #[.int .i64 b.ms, .int .i64 b.ht, .slice A N c] 27)).alloc (.cells #[.slice none 0 0, .slice none 0 0] 53) = w0 := ⟨_, rfl⟩
 have hx0 : Ext w w0 := by rw [← hw0]; exact ((Ext.refl w).alloc _).alloc _
 have hB0 : w0.heap[z]? = some (.cells #[.int .i64 b.ms, .int .i64 b.ht, .slice A N c] 27 (0, 0)) := by
  rw [← hw0, ← hz, haO _ _ _ (by simp)]; exact heap_alloc_new _ _
 have hB1 : TbxB (z + 1) (.slice none 0 0) (.slice none 0 0) w0 := ⟨by rw [← hw0, ← hz]; exact haA _ _ _ _ (by simp)⟩
 have HX0 := Hd hx0
 have HZ := Hd hz
 have HB0 := Hd hB0
 have HB1 := Hd hB1
 have HBS := Hd hs
 have HNN := Hd (show N ≤ 1000000 by rw [Lay.row_len hr]; exact hs.n)
 have HR := Hd (fun X (hX : Ext w0 X) => Lay.row_ext (Lay.row_ext hr hx0) hX)
 have HFI := Hd (find_any P w0 b.ms b.ht e b.secs A N c (Lay.row_ext hr hx0) (by rw [Lay.row_len hr]; exact hs.n))
 have a0 := cof hB0 (i := 0) rfl
 have a1 := cof hB0 (i := 1) rfl
 have a2 := cof hB0 (i := 2) rfl
 have HCA := Hd (textB_cases b hv e v)
 obtain ⟨o, ho⟩ : ∃ o, textB b e v = o := ⟨_, rfl⟩
 rw [ho] at HCA ⊢
 clear hr hs hv hx0 hB0 hB1 ho
 go_enter Tryz.func52, Tryz.ntmps52
 go_upto_region 1 with (fail)
 clear hw0 hz
 rcases HCA.out with ⟨hi, rfl⟩ | ⟨i, x, hi, hx, hk⟩
 ·obtain ⟨q, hq⟩ : ∃ q, idxI (fun x => x.ent == e) b.secs = q := ⟨_, rfl⟩
  rw [hq] at HFI hi
  clear hq HCA
  go_upto_region 3 with (first | (go_at_call 81; refine (HFI.out).mono ?_; rintro r w2 ⟨rfl, hx2⟩; have HX2 := Hd hx2; clear hx2))
  have HT2 := Hd (show TbxB (z + 1) (.slice none 0 0) (.slice none 0 0) w2 from ⟨(HX2.out.block _ (lt_of_block HB1.out.b)).trans HB1.out.b⟩)
  have f0 := fof HT2.out.b 0
  have f1 := fof HT2.out.b 1
  have e0 := cof HT2.out.b (i := 0) rfl
  have e1 := cof HT2.out.b (i := 1) rfl
  go_wp2_with fail
  obtain ⟨Y, hY⟩ : ∃ Y, (w2.setCell ⟨z + 1, 0, none⟩ (.slice none 0 0)).setCell ⟨z + 1, 1, none⟩ (.slice none 0 0) = Y := ⟨_, rfl⟩
  obtain ⟨g1, g2, _⟩ := HT2.out.set (w := w) (by have := HZ.out; omega) (HX0.out.trans HX2.out) (.slice none 0 0) (.slice none 0 0)
  rw [hY] at g1 g2 ⊢
  have q0 := cof g1.b (i := 0) rfl
  have q1 := cof g1.b (i := 1) rfl
  refine bodyPost_ret (v := .tuple #[.agg #[.slice none 0 0, .slice none 0 0], .bool false]) (by simp [results, Tryz.results52, go_sem, q0, q1]) rfl ?_
  exact TxGet.no g2
 rw [hi] at HFI
 have hiN : (i : Int) < (N : Int) := by have := (List.getElem?_eq_some_iff.1 hx).1; have := Lay.row_len (HR.out w0 (Ext.refl _)); omega
 have hi0 : ¬ ((i : Int) < 0) := by omega
 have HXI := Hd hx
 have HKC := Hd hk
 clear hi hx hk HCA
 go_upto_region 4 with (first | (go_at_call 81; refine (HFI.out).mono ?_; rintro r w2 ⟨rfl, hx2⟩; have HX2 := Hd hx2; clear hx2))
 obtain ⟨bs, os, cs, rfl, hbs, _, hrep, hcs⟩ := Lay.row_at (HR.out w2 HX2.out) HXI.out
 obtain ⟨A1, n1, c1, A2, n2, c2, rfl, hn1, hn2, rv, rt⟩ := kSe_rep.1 hrep
 have s2 := hcs 2 _ rfl
 have s3 := hcs 3 _ rfl
 rw [kSe_sz] at s2 s3
 have HSC := Hd (fun X (hX : Ext w2 X) => (show X.cell? ⟨bs, os + i * 4 + 2, none⟩ = some (.slice A1 n1 c1) ∧ X.cell? ⟨bs, os + i * 4 + 3, none⟩ = some (.slice A2 n2 c2) ∧ X.cell? ⟨z, 2, none⟩ = some (.slice (some ⟨bs, os, none⟩) N c) from
  ⟨(hX.cells.1 bs _ hbs).trans s2, (hX.cells.1 bs _ hbs).trans s3, cof (((HX2.out.trans hX).block _ (lt_of_block HB0.out)).trans HB0.out) (i := 2) rfl⟩))
 have HRT := Hd (fun X (hX : Ext w2 X) => Lay.row_ext rt hX)
 have hxm := List.mem_of_getElem? HXI.out
 have HIX := Hd (index_int P w2 A1 n1 c1 x.vers v rv (by rw [Lay.row_len rv]; exact HBS.out.nv x hxm))
 have hn2l := Lay.row_len rt
 clear s2 s3 rv rt hrep hcs a0 a1 a2
 obtain ⟨s2, s3, a2⟩ := HSC.out w2 (Ext.refl _)
 have HT2 := Hd (fun X (hX : Ext w2 X) => (show TbxB (z + 1) (.slice none 0 0) (.slice none 0 0) X from ⟨((HX2.out.trans hX).block _ (lt_of_block HB1.out.b)).trans HB1.out.b⟩))
 rcases HKC.out with ⟨hk, rfl⟩ | ⟨k, t, hk, hkv, hkt, rfl⟩
 ·obtain ⟨q, hq⟩ : ∃ q, idxI (fun u => u == v) x.vers = q := ⟨_, rfl⟩
  rw [hq] at HIX hk
  clear hq HKC
  go_upto_region 6 with (first | (go_at_call 107; refine (HIX.out).mono ?_; rintro r w3 ⟨rfl, rfl⟩))
  have hT2 := HT2.out w2 (Ext.refl _)
  have f0 := fof hT2.b 0
  have f1 := fof hT2.b 1
  have e0 := cof hT2.b (i := 0) rfl
  have e1 := cof hT2.b (i := 1) rfl
  go_wp2_with fail
  obtain ⟨Y, hY⟩ : ∃ Y, (w2.setCell ⟨z + 1, 0, none⟩ (.slice none 0 0)).setCell ⟨z + 1, 1, none⟩ (.slice none 0 0) = Y := ⟨_, rfl⟩
  obtain ⟨g1, g2, _⟩ := hT2.set (w := w) (by have := HZ.out; omega) (HX0.out.trans HX2.out) (.slice none 0 0) (.slice none 0 0)
  rw [hY] at g1 g2 ⊢
  have q0 := cof g1.b (i := 0) rfl
  have q1 := cof g1.b (i := 1) rfl
  refine bodyPost_ret (v := .tuple #[.agg #[.slice none 0 0, .slice none 0 0], .bool false]) (by simp [results, Tryz.results52, go_sem, q0, q1]) rfl ?_
  exact TxGet.no g2
 rw [hk] at HIX
 have hkn : (k : Int) < (n2 : Int) := by have := (List.getElem?_eq_some_iff.1 hkt).1; omega
 have hk0 : ¬ ((k : Int) < 0) := by omega
 have HKT := Hd hkt
 clear hk hkv hkt HKC
 go_upto_region 7 with (first | (go_at_call 107; refine (HIX.out).mono ?_; rintro r w3 ⟨rfl, rfl⟩))
 obtain ⟨bt, ot, ct, rfl, hbt, _, hrept, hct⟩ := Lay.row_at (HRT.out w2 (Ext.refl _)) HKT.out
 obtain ⟨A5, n5, c5, A6, n6, c6, rfl, hn5, hn6, r5, r6⟩ := kTx_rep.1 hrept
 have t0 := hct 0 _ rfl
 have t1 := hct 1 _ rfl
 rw [kTx_sz] at t0 t1
 rw [Nat.add_zero] at t0
 have hts := HBS.out.tx x hxm t (List.mem_of_getElem? HKT.out)
 have HTX := Hd (text_any P w2 t A5 A6 n5 n6 c5 c6 r5 r6 (by rw [Lay.row_len r5]; exact hts.np) (by rw [Lay.row_len r6]; exact hts.nn) hts.len)
 clear r5 r6 hrept hct hts hxm
 go_wp2_with (first | (go_at_call 84; refine (HTX.out).mono ?_; rintro r w4 ⟨val, rfl, hval, hx4⟩; obtain ⟨A7, n7, c7, A8, n8, c8, rfl, hn7, hn8, r7, r8⟩ := hval; have HX4 := Hd hx4; have HR7 := Hd r7; have HR8 := Hd r8; have hT4 := HT2.out w4 hx4; have f0 := fof hT4.b 0; have f1 := fof hT4.b 1; have e0 := cof hT4.b (i := 0) rfl; have e1 := cof hT4.b (i := 1) rfl; clear hx4 r7 r8))
 obtain ⟨Y, hY⟩ : ∃ Y, (w4.setCell ⟨z + 1, 0, none⟩ (.slice A7 n7 c7)).setCell ⟨z + 1, 1, none⟩ (.slice A8 n8 c8) = Y := ⟨_, rfl⟩
 obtain ⟨g1, g2, g3⟩ := hT4.set (w := w) (by have := HZ.out; omega) (HX0.out.trans (HX2.out.trans HX4.out)) (.slice A7 n7 c7) (.slice A8 n8 c8)
 have hsz : ((w4.setCell ⟨z + 1, 0, none⟩ (.slice A7 n7 c7)).setCell ⟨z + 1, 1, none⟩ (.slice A8 n8 c8)).heap.size = w4.heap.size := by simp
 rw [hY] at g1 g2 g3 hsz ⊢
 have hzl : z + 1 < w2.heap.size := lt_of_block (HT2.out w2 (Ext.refl _)).b
 have q0 := cof g1.b (i := 0) rfl
 have q1 := cof g1.b (i := 1) rfl
 refine bodyPost_ret (v := .tuple #[.agg #[.slice A7 n7 c7, .slice A8 n8 c8], .bool true]) (by simp [results, Tryz.results52, go_sem, q0, q1]) rfl ?_
 exact ⟨A7, n7, c7, A8, n8, c8, rfl, hn7, hn8, Lay.row_mono (Lay.row_keep HR7.out (by omega) fun j hj _ => g3 j (by omega)) fun j hj _ => by have := HZ.out; omega, Lay.row_mono (Lay.row_keep HR8.out (by omega) fun j hj _ => g3 j (by omega)) fun j hj _ => by have := HZ.out; omega, g2⟩
end
section
open Go Go.RowKit
theorem notesOf_mem {R : Ln → Prop} {notes : List (List Ln)} (hn : ∀ ls ∈ notes, ∀ l ∈ ls, R l) (x : Ln) : ∀ l ∈ notesOf notes x, R l := by
 intro l hl
 unfold notesOf at hl
 rw [List.mem_flatMap] at hl
 obtain ⟨n, _, h1⟩ := hl
 cases h2 : notes[n.toNat]? with
 | none => rw [h2] at h1; simp at h1
 | some ls => rw [h2] at h1; exact hn ls (List.mem_of_getElem? h2) l h1
theorem fillP_mem {R : Ln → Prop} (h : Int) {notes : List (List Ln)} (hn : ∀ ls ∈ notes, ∀ l ∈ ls, R l) : ∀ (body q : List Ln) (lines : Nat) (shown : Int), (∀ l ∈ q, R l) → ∀ l ∈ (fillP h notes body q lines shown).2.1, R l := by
 intro body
 induction body with
 | nil => intro q lines shown hq l hl; exact hq l hl
 | cons x r ih =>
  intro q lines shown hq l hl
  unfold fillP at hl
  split at hl
  ·exact ih _ _ _ (fun y hy => by
    rcases List.mem_append.1 hy with hy | hy
    ·exact hq y hy
    ·exact notesOf_mem hn x y hy) l hl
  ·exact hq l hl
theorem setF_mem {R : Ln → Prop} (h : Int) {notes : List (List Ln)} (hn : ∀ ls ∈ notes, ∀ l ∈ ls, R l) : ∀ (f : Nat) (body q : List Ln), (∀ l ∈ body, R l) → (∀ l ∈ q, R l) → ∀ pg ∈ setF h notes f body q, ∀ l ∈ pg.1 ++ pg.2, R l := by
 intro f
 induction f with
 | zero => intro body q _ _ pg hp; simp [setF] at hp
 | succ f ih =>
  intro body q hb hq pg hp
  unfold setF at hp
  split at hp
  ·simp at hp
  ·have hm := fillP_mem h hn body q 0 (min (q.length : Int) (h - 1)) hq
   rcases List.mem_cons.1 hp with rfl | hp
   ·intro l hl
    rcases List.mem_append.1 hl with hl | hl
    ·exact hb l (List.mem_of_mem_take hl)
    ·exact hm l (List.mem_of_mem_take hl)
   ·exact ih _ _ (fun l hl => hb l (List.mem_of_mem_drop hl)) (fun l hl => hm l (List.mem_of_mem_drop hl)) pg hp
theorem textP_lns {t : Tx} {m h : Int} (hT : TxP t m h) : ∀ pg ∈ (textP t m h).2, ∀ l ∈ pg.1 ++ pg.2, l.gaps.length ≤ 1000000 ∧ l.nts.length ≤ 1000000 := by
 rw [hT.eq]
 unfold setPg
 rw [if_neg (by rw [hT.pg]; simp)]
 have hb : ∀ {L : List Ln}, LnsB L → ∀ l ∈ L, l.gaps.length ≤ 1000000 ∧ l.nts.length ≤ 1000000 := fun hl l h => by have := hl l h; omega
 exact setF_mem h (fun ls hls => hb (hT.lnn ls hls)) _ _ _ (hb hT.lnb) (fun l hl => by simp at hl)
theorem OkB.lns {b : Bk} {N V : Nat} (h : OkB b N V) : ∀ p ∈ pagesB b, (∀ l ∈ p.body, l.gaps.length ≤ 1000000 ∧ l.nts.length ≤ 1000000) ∧ (∀ l ∈ p.nts, l.gaps.length ≤ 1000000 ∧ l.nts.length ≤ 1000000) := by
 intro p hp
 have := pagesS_all (fun x y => ∀ l ∈ x ++ y, l.gaps.length ≤ 1000000 ∧ l.nts.length ≤ 1000000) b.ms b.ht b.secs 0 (fun x hx t ht q hq => textP_lns (txP_of (h.tx x hx t ht) h.m0 h.m1 h.h0 h.h1) q hq) p hp
 exact ⟨fun l hl => this l (List.mem_append_left _ hl), fun l hl => this l (List.mem_append_right _ hl)⟩
end
section
def RngL (B : Nat) (x : Ln) : Prop := 0 ≤ x.fr ∧ x.un - x.fr ≤ 40 ∧ x.un ≤ (B : Nat)
theorem linesGo_rng (m : Int) : ∀ (ls : List Nat) (ws : List Wd) (first : Int), ∀ x ∈ linesGo m ws ls first, first ≤ x.fr ∧ x.un ≤ first + (ls.sum : Nat) ∧ x.un - x.fr ≤ (ls.sum : Nat)
 | [], ws, _, x, hx => by cases ws <;> simp [linesGo] at hx
 | l :: ls, ws, first, x, hx => by
  simp only [linesGo] at hx
  rcases List.mem_cons.1 hx with rfl | hx
  ·simp only [List.sum_cons]; omega
  ·have := linesGo_rng m ls _ _ x hx
   simp only [List.sum_cons]; omega
theorem setP_rng {m : Int} (hm : 500 ≤ m) (ws : List Wd) (first : Int) : ∀ x ∈ setP ws first m, first ≤ x.fr ∧ x.un ≤ first + (ws.length : Nat) ∧ x.un - x.fr ≤ (ws.length : Nat) := fun x hx => by
 have h := (lens_ok hm (wds_of ws)).2
 rw [List.length_map] at h
 have := linesGo_rng m _ ws first x hx
 rw [h] at this
 exact this
theorem setsP_rng {m : Int} (hm : 500 ≤ m) : ∀ (ps : List (List Wd)) (first : Int), (∀ p ∈ ps, p.length ≤ 40) → ∀ l ∈ setsP m ps first, ∀ x ∈ l, first ≤ x.fr ∧ x.un ≤ first + (wordsN ps : Nat) ∧ x.un - x.fr ≤ 40
 | [], _, _, l, hl, _, _ => by simp [setsP] at hl
 | p :: ps, first, hp, l, hl, x, hx => by
  simp only [setsP] at hl
  have hw : wordsN (p :: ps) = p.length + wordsN ps := by simp [wordsN]
  rcases List.mem_cons.1 hl with rfl | hl
  ·have h1 := setP_rng hm p first x hx
   have h2 := hp p (.head _)
   rw [hw]; omega
  ·have h1 := setsP_rng hm ps _ (fun q hq => hp q (.tail _ hq)) l hl x hx
   rw [hw]; omega
theorem words_le {ps : List (List Wd)} {B : Nat} (h : ∀ p ∈ ps, p.length ≤ B) : wordsN ps ≤ ps.length * B := by
 induction ps with
 | nil => simp [wordsN]
 | cons p ps ih =>
  have h1 := ih fun q hq => h q (.tail _ hq)
  have h2 := h p (.head _)
  have hw : wordsN (p :: ps) = p.length + wordsN ps := by simp [wordsN]
  rw [hw, List.length_cons, Nat.add_mul]; omega
theorem OkT.words {t : Tx} (h : OkT t) : wordsN t.paras ≤ 160 ∧ wordsN (t.paras ++ t.notes) ≤ 200 := by
 have h1 := words_le (B := 40) fun p hp => (h.par.len p hp).2
 have h2 := words_le (B := 12) fun p hp => (h.len p hp).2
 have h3 : wordsN (t.paras ++ t.notes) = wordsN t.paras + wordsN t.notes := by simp [wordsN]
 have := h.np
 have := h.nn
 omega
theorem textP_rng {t : Tx} (ht : OkT t) {m h : Int} (hm : 500 ≤ m) (hm2 : m ≤ 2000) (hh : 4 ≤ h) (hh2 : h ≤ 100) : ∀ pg ∈ (textP t m h).2, ∀ l ∈ pg.1 ++ pg.2, RngL 200 l := by
 have hT := txP_of ht hm hm2 hh hh2
 have hl : linesT t m = (0, (setsP m t.paras 0).flatten, setsP m t.notes (t.paras.map List.length).sum) := by
  unfold linesT
  rw [if_neg (by rw [chkT_ok ht]; simp), if_neg (by omega)]
 obtain ⟨hw1, hw2⟩ := ht.words
 have hw3 : wordsN (t.paras ++ t.notes) = wordsN t.paras + wordsN t.notes := by simp [wordsN]
 have hb : ∀ l ∈ (linesT t m).2.1, RngL 200 l := fun l hl' => by
  rw [hl] at hl'
  obtain ⟨ls, hls, hx⟩ := List.mem_flatten.1 hl'
  have := setsP_rng hm t.paras 0 (fun p hp => (ht.par.len p hp).2) ls hls l hx
  unfold RngL; omega
 have hn : ∀ ls ∈ (linesT t m).2.2, ∀ l ∈ ls, RngL 200 l := fun ls hls l hl' => by
  rw [hl] at hls
  have := setsP_rng hm t.notes _ (fun p hp => by have := (ht.len p hp).2; omega) ls hls l hl'
  have h9 : (t.paras.map List.length).sum = wordsN t.paras := rfl
  rw [h9] at this
  unfold RngL; omega
 rw [hT.eq]
 unfold setPg
 rw [if_neg (by rw [hT.pg]; simp)]
 exact setF_mem h hn _ _ _ hb (fun l hl => by simp at hl)
theorem OkB.rng {b : Bk} {N V : Nat} (h : OkB b N V) : ∀ p ∈ pagesB b, ∀ l ∈ p.body ++ p.nts, RngL 200 l := fun p hp =>
 pagesS_all (fun x y => ∀ l ∈ x ++ y, RngL 200 l) b.ms b.ht b.secs 0 (fun x hx t ht q hq => textP_rng (h.tx x hx t ht) h.m0 h.m1 h.h0 h.h1 q hq) p hp
theorem hitW_len (br tb : Int) (ls : List Sea) (t : Tx) (p : Pg) (k : Nat) (n : Int) : (hitW br tb ls t p k n).length ≤ 1 := by
 unfold hitW
 split
 ·simp
 ·split <;> simp
theorem hitN_len (br tb : Int) (ls : List Sea) (t : Tx) (p : Pg) (k : Nat) (n : Int) : ∀ m : Nat, (hitN br tb ls t p k n m).length ≤ m
 | 0 => by simp [hitN]
 | m + 1 => by
  rw [hitN_succ, List.length_append]
  have := hitN_len br tb ls t p k n m
  have := hitW_len br tb ls t p k (n + (m : Nat))
  omega
theorem hitX_len (br tb : Int) (ls : List Sea) (t : Tx) (p : Pg) (k : Nat) {x : Ln} (h : RngL 200 x) : (hitX br tb ls t p k x).length ≤ 40 := by
 have := hitN_len br tb ls t p k x.fr (x.un - x.fr).toNat
 unfold hitX
 have := h.2.1
 omega
theorem hitL_len (br tb : Int) (ls : List Sea) (t : Tx) (p : Pg) (xs : List Ln) (h : ∀ x ∈ xs, RngL 200 x) : ∀ m : Nat, (hitL br tb ls t p xs m).length ≤ 40 * m
 | 0 => by simp [hitL]
 | m + 1 => by
  have ih := hitL_len br tb ls t p xs h m
  cases hx : xs[m]? with
  | none =>
   have : hitL br tb ls t p xs (m + 1) = hitL br tb ls t p xs m := by
    unfold hitL; rw [List.range_succ, List.flatMap_append]; simp [hx]
   rw [this]; omega
  | some x =>
   rw [hitL_succ br tb ls t p hx, List.length_append]
   have := hitX_len br tb ls t p m (h x (List.mem_of_getElem? hx))
   omega
theorem hitP_len {b : Bk} {N V : Nat} (h : OkB b N V) (br tb : Int) (ls : List Sea) {p : Pg} (hp : p ∈ pagesB b) : (hitP br tb ls b p).length ≤ 4000 := by
 unfold hitP
 split
 ·simp
 ·next t _ =>
  have h1 := hitL_len br tb ls t p (p.body ++ p.nts) (h.rng p hp) (p.body ++ p.nts).length
  have := h.hgt p hp
  exact Nat.le_trans h1 (by omega)
theorem flat_le {α β : Type} {f : α → List β} {B : Nat} : ∀ {l : List α}, (∀ x ∈ l, (f x).length ≤ B) → (l.flatMap f).length ≤ l.length * B
 | [], _ => by simp
 | x :: l, h => by
  have h1 := flat_le (l := l) fun y hy => h y (.tail _ hy)
  have h2 := h x (.head _)
  rw [List.flatMap_cons, List.length_append, List.length_cons, Nat.add_mul]
  omega
theorem hits_len {b : Bk} {N V : Nat} (h : OkB b N V) (hN : 200 * V * N ≤ 4000) (br tb : Int) (ls : List Sea) : (hits br tb ls b).length ≤ 16000000 := by
 have h1 := flat_le (f := hitP br tb ls b) (l := pagesB b) fun p hp => hitP_len h br tb ls hp
 have h2 := h.np
 unfold hits
 refine Nat.le_trans h1 (Nat.le_trans (Nat.mul_le_mul_right 4000 (Nat.le_trans h2 hN)) (by omega))
theorem hitW_key {t : Tx} (h : OkT t) {br tb : Int} {ls : List Sea} {p : Pg} {k : Nat} {n : Int} : ∀ x ∈ hitW br tb ls t p k n, x.1.length ≤ 1000 := fun ⟨key, c⟩ hx => by
 obtain ⟨w, hw, rfl, _⟩ := mem_hitW.1 hx
 obtain ⟨_, _, q, hq, hwq⟩ := wordT_lt hw
 rcases List.mem_append.1 hq with hq | hq
 ·have := (h.par.ok q hq w hwq).2.2.2.2; simp only; omega
 ·have := (h.ok q hq w hwq).1.2.2.2.2; simp only; omega
theorem textB_ok {b : Bk} {N V : Nat} (h : OkB b N V) {e v : Int} {t : Tx} (ht : textB b e v = some t) : OkT t := by
 obtain ⟨x, hx, _, k, _, h2⟩ := textB_mem ht
 exact h.tx x hx t (List.mem_of_getElem? h2)
theorem hits_key {b : Bk} {N V : Nat} (h : OkB b N V) {br tb : Int} {ls : List Sea} : ∀ x ∈ hits br tb ls b, x.1.length ≤ 1000 := fun ⟨key, c⟩ hx => by
 obtain ⟨p, hp, t, ht, i, x, hx, n, h2, h3, w, hw, rfl, _⟩ := mem_hits.1 hx
 obtain ⟨_, _, q, hq, hwq⟩ := wordT_lt hw
 have ho := textB_ok h ht
 rcases List.mem_append.1 hq with hq | hq
 ·have := (ho.par.ok q hq w hwq).2.2.2.2; simp only; omega
 ·have := (ho.ok q hq w hwq).1.2.2.2.2; simp only; omega
end
end Go.Proofs.YtdbnddmncbjobaaGreatDoor