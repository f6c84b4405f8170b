/- cite.Find: walked. -/
import Derived.Test.YtdbnddmncbjobaaGreatDoorQaz
namespace Go.Proofs.YtdbnddmncbjobaaGreatDoor
open Go Go.RowKit

/-- The page and the line of a citation. -/
def citP (b : Bk) (n s line : Int) : Option (Pg × Ln) := (pageP b n s).bind fun p => if line < 1 then none else ((p.body ++ p.nts)[(line - 1).toNat]?).map fun x => (p, x)
def FindPost (w : World) (b : Bk) (n s line : Int) (z : Ending) (w' : World) : Prop :=
  Ext w w' ∧ ((citP b n s line = none ∧ z = .returned (.tuple #[.agg #[.int .i64 0, .int .i64 0, .int .i64 0, .int .i64 0, .slice none 0 0, .slice none 0 0], .agg #[.int .i64 0, .int .i64 0, .slice none 0 0, .slice none 0 0], .bool false])) ∨
  ∃ (p : Pg) (x : Ln) (A7 : Option Addr) (n7 c7 : Nat) (A8 : Option Addr) (n8 c8 : Nat) (A1 : Option Addr) (n1 c1 : Nat) (A2 : Option Addr) (n2 c2 : Nat), citP b n s line = some (p, x) ∧
    z = .returned (.tuple #[.agg #[.int .i64 p.num, .int .i64 p.suf, .int .i64 p.ent, .int .i64 p.ver, .slice A7 n7 c7, .slice A8 n8 c8], .agg #[.int .i64 x.fr, .int .i64 x.un, .slice A1 n1 c1, .slice A2 n2 c2], .bool true]) ∧
    n7 ≤ c7 ∧ n8 ≤ c8 ∧ kLn.row w' (fun j => w.heap.size ≤ j) A7 n7 p.body ∧ kLn.row w' (fun j => w.heap.size ≤ j) A8 n8 p.nts ∧ kInt.row w' (fun j => w.heap.size ≤ j) A1 n1 x.gaps ∧ kInt.row w' (fun j => w.heap.size ≤ j) A2 n2 x.nts ∧ n1 ≤ c1 ∧ n2 ≤ c2)
/-- The results' cells. -/
structure FiR (z2 z3 : Nat) (W : World) : Prop where
  h2 : W.heap[z2]? = some (.cells #[.int .i64 0, .int .i64 0, .int .i64 0, .int .i64 0, .slice none 0 0, .slice none 0 0] 84 (0, 0))
  h3 : W.heap[z3]? = some (.cells #[.int .i64 0, .int .i64 0, .slice none 0 0, .slice none 0 0] 86 (0, 0))
theorem FiR.ext {z2 z3 : Nat} {W W' : World} (h : FiR z2 z3 W) (hx : Ext W W') : FiR z2 z3 W' := ⟨(hx.block _ (lt_of_block h.h2)).trans h.h2, (hx.block _ (lt_of_block h.h3)).trans h.h3⟩
/-- A page and a line are stored. -/
structure St10 (W Y : World) (z2 z3 : Nat) (cs ds : Array Value) : Prop where
  size : Y.heap.size = W.heap.size
  keep : ∀ j, j ≠ z2 → j ≠ z3 → Y.heap[j]? = W.heap[j]?
  ext : ∀ a : World, a.heap.size ≤ z2 → a.heap.size ≤ z3 → Ext a W → Ext a Y
  h2 : Y.heap[z2]? = some (.cells cs 84 (0, 0))
  h3 : Y.heap[z3]? = some (.cells ds 86 (0, 0))
theorem st10 {W : World} {z2 z3 : Nat} (hne : z2 ≠ z3) {a0 a1 a2 a3 a4 a5 x0 x1 x2 x3 : Value} (h2 : W.heap[z2]? = some (.cells #[a0, a1, a2, a3, a4, a5] 84 (0, 0))) (h3 : W.heap[z3]? = some (.cells #[x0, x1, x2, x3] 86 (0, 0))) (v0 v1 v2 v3 v4 v5 u0 u1 u2 u3 : Value) :
    St10 W ((((((((((W.setCell ⟨z2, 0, none⟩ v0).setCell ⟨z2, 1, none⟩ v1).setCell ⟨z2, 2, none⟩ v2).setCell ⟨z2, 3, none⟩ v3).setCell ⟨z2, 4, none⟩ v4).setCell ⟨z2, 5, none⟩ v5).setCell ⟨z3, 0, none⟩ u0).setCell ⟨z3, 1, none⟩ u1).setCell ⟨z3, 2, none⟩ u2).setCell ⟨z3, 3, none⟩ u3) z2 z3 #[v0, v1, v2, v3, v4, v5] #[u0, u1, u2, u3] := by
  have h9 : ((((((W.setCell ⟨z2, 0, none⟩ v0).setCell ⟨z2, 1, none⟩ v1).setCell ⟨z2, 2, none⟩ v2).setCell ⟨z2, 3, none⟩ v3).setCell ⟨z2, 4, none⟩ v4).setCell ⟨z2, 5, none⟩ v5).heap[z3]? = some (.cells #[x0, x1, x2, x3] 86 (0, 0)) := by
    rw [heap_setCell_other _ ⟨z2, 5, none⟩ z3 _ hne.symm, heap_setCell_other _ ⟨z2, 4, none⟩ z3 _ hne.symm, heap_setCell_other _ ⟨z2, 3, none⟩ z3 _ hne.symm, heap_setCell_other _ ⟨z2, 2, none⟩ z3 _ hne.symm, heap_setCell_other _ ⟨z2, 1, none⟩ z3 _ hne.symm, heap_setCell_other _ ⟨z2, 0, none⟩ z3 _ hne.symm]
    exact h3
  refine ⟨by simp, fun j k2 k3 => ?_, fun a l2 l3 hx => ?_, ?_, ?_⟩
  · rw [heap_setCell_other _ ⟨z3, 3, none⟩ j _ k3, heap_setCell_other _ ⟨z3, 2, none⟩ j _ k3, heap_setCell_other _ ⟨z3, 1, none⟩ j _ k3, heap_setCell_other _ ⟨z3, 0, none⟩ j _ k3, heap_setCell_other _ ⟨z2, 5, none⟩ j _ k2, heap_setCell_other _ ⟨z2, 4, none⟩ j _ k2, heap_setCell_other _ ⟨z2, 3, none⟩ j _ k2, heap_setCell_other _ ⟨z2, 2, none⟩ j _ k2, heap_setCell_other _ ⟨z2, 1, none⟩ j _ k2, heap_setCell_other _ ⟨z2, 0, none⟩ j _ k2]
  · exact ((((((((((hx.setCell (p := ⟨z2, 0, none⟩) l2 _).setCell (p := ⟨z2, 1, none⟩) l2 _).setCell (p := ⟨z2, 2, none⟩) l2 _).setCell (p := ⟨z2, 3, none⟩) l2 _).setCell (p := ⟨z2, 4, none⟩) l2 _).setCell (p := ⟨z2, 5, none⟩) l2 _).setCell (p := ⟨z3, 0, none⟩) l3 _).setCell (p := ⟨z3, 1, none⟩) l3 _).setCell (p := ⟨z3, 2, none⟩) l3 _).setCell (p := ⟨z3, 3, none⟩) l3 _)
  · rw [heap_setCell_other _ ⟨z3, 3, none⟩ z2 _ hne, heap_setCell_other _ ⟨z3, 2, none⟩ z2 _ hne, heap_setCell_other _ ⟨z3, 1, none⟩ z2 _ hne, heap_setCell_other _ ⟨z3, 0, none⟩ z2 _ hne]
    exact (heap_setCell_same _ z2 5 _ 84 _ (heap_setCell_same _ z2 4 _ 84 _ (heap_setCell_same _ z2 3 _ 84 _ (heap_setCell_same _ z2 2 _ 84 _ (heap_setCell_same _ z2 1 _ 84 _ (heap_setCell_same _ z2 0 _ 84 _ h2))))))
  · exact (heap_setCell_same _ z3 3 _ 86 _ (heap_setCell_same _ z3 2 _ 86 _ (heap_setCell_same _ z3 1 _ 86 _ (heap_setCell_same _ z3 0 _ 86 _ h9))))
theorem pagesT_ln (ent ver : Int) (first : Bool) (B : Nat) : ∀ (ps : List (List Ln × List Ln)) (n s : Int), (∀ q ∈ ps, q.1.length ≤ B ∧ q.2.length ≤ B) → ∀ p ∈ (pagesT ent ver first ps n s).1, p.body.length ≤ B ∧ p.nts.length ≤ B := by
  intro ps
  induction ps with
  | nil => intro n s _ p hp; simp [pagesT] at hp
  | cons a ps ih =>
    intro n s h p hp
    simp only [pagesT] at hp
    rcases List.mem_cons.1 hp with rfl | hp
    · exact h a (by simp)
    · exact ih _ _ (fun q hq => h q (by simp [hq])) p hp
theorem pagesV_ln (m h ent : Int) (B : Nat) : ∀ (vs : List Int) (ts : List Tx) (f : Bool) (n s : Int), (∀ t ∈ ts, ∀ q ∈ (textP t m h).2, q.1.length ≤ B ∧ q.2.length ≤ B) → ∀ p ∈ (pagesV m h ent vs ts f n s).1, p.body.length ≤ B ∧ p.nts.length ≤ B := by
  intro vs
  induction vs with
  | nil => intro ts f n s _ p hp; simp [pagesV] at hp
  | cons v vs ih =>
    intro ts f n s hk p hp
    cases ts with
    | nil => simp [pagesV] at hp
    | cons t ts =>
      simp only [pagesV] at hp
      rcases List.mem_append.1 hp with hp | hp
      · exact pagesT_ln _ _ _ B _ _ _ (hk t (by simp)) p hp
      · exact ih ts _ _ _ (fun t ht => hk t (by simp [ht])) p hp
theorem pagesS_ln (m h : Int) (B : Nat) : ∀ (l : List Se) (n : Int), (∀ x ∈ l, ∀ t ∈ x.texts, ∀ q ∈ (textP t m h).2, q.1.length ≤ B ∧ q.2.length ≤ B) → ∀ p ∈ pagesS m h l n, p.body.length ≤ B ∧ p.nts.length ≤ B := by
  intro l
  induction l with
  | nil => intro n _ p hp; simp [pagesS] at hp
  | cons x l ih =>
    intro n hk p hp
    simp only [pagesS] at hp
    rcases List.mem_append.1 hp with hp | hp
    · exact pagesV_ln _ _ _ B _ _ _ _ _ (hk x (by simp)) p hp
    · exact ih _ (fun y hy => hk y (by simp [hy])) p hp
theorem page_ln {b : Bk} (hb : BkI b) {n s : Int} {p : Pg} (h : pageP b n s = some p) : p.body.length ≤ 1000 ∧ p.nts.length ≤ 1000 :=
  pagesS_ln b.ms b.ht 1000 b.secs 0 hb.ln p (List.mem_of_find?_eq_some h)
set_option maxHeartbeats 4000000 in
set_option maxRecDepth 100000 in
theorem find_cite (P : Nat → Prop) (w : World) (b : Bk) (br n s line : Int) (A : Option Addr) (N c : Nat) (hb : BkI b) (hr : kSe.row w P A N b.secs) (hL : EnvW w) (hl0 : -9223372036854775807 ≤ line) (hl1 : line ≤ 9223372036854775807) :
    Calls Tryz.prog 44 #[.agg #[.int .i64 b.ms, .int .i64 b.ht, .slice A N c], .agg #[.int .i64 br, .int .i64 n, .int .i64 s, .int .i64 line]] w (FindPost w b n s line) := by
  have HPG := Lib.hid (fun (X : World) (hX : Ext w X) => page_any P X b n s A N c hb (Lay.row_ext hr hX) (hL.ext hX))
  have HPL := Lib.hid (fun p (hp : pageP b n s = some p) => page_ln hb hp)
  clear hb hr hL
  go_enter Tryz.func44, Tryz.ntmps44
  go_upto_region 1 with (fail)
  obtain ⟨w1, hw1⟩ : ∃ w1, (((w.alloc (.cells #[.int .i64 b.ms, .int .i64 b.ht, .slice A N c] 27)).alloc (.cells #[.int .i64 br, .int .i64 n, .int .i64 s, .int .i64 line] 69)).alloc (.cells #[.int .i64 0, .int .i64 0, .int .i64 0, .int .i64 0, .slice none 0 0, .slice none 0 0] 84)).alloc (.cells #[.int .i64 0, .int .i64 0, .slice none 0 0, .slice none 0 0] 86) = w1 := ⟨_, rfl⟩
  obtain ⟨z0, hz0⟩ : ∃ z, w.heap.size = z := ⟨_, rfl⟩
  have hx1 : Ext w w1 := by rw [← hw1]; exact ((((Ext.refl w).alloc _).alloc _).alloc _).alloc _
  have h0 : w1.heap[z0]? = some (.cells #[.int .i64 b.ms, .int .i64 b.ht, .slice A N c] 27 (0, 0)) := by rw [← hw1, ← hz0, heap_alloc_old _ _ _ (by simp <;> omega), heap_alloc_old _ _ _ (by simp <;> omega), heap_alloc_old _ _ _ (by simp)]; exact heap_alloc_at _ _ _ _ rfl
  have h1 : w1.heap[z0 + 1]? = some (.cells #[.int .i64 br, .int .i64 n, .int .i64 s, .int .i64 line] 69 (0, 0)) := by rw [← hw1, ← hz0, heap_alloc_old _ _ _ (by simp <;> omega), heap_alloc_old _ _ _ (by simp)]; exact heap_alloc_at _ _ _ _ (by simp)
  have hF : FiR (z0 + 1 + 1) (z0 + 1 + 1 + 1) w1 := by
    refine ⟨?_, ?_⟩
    · rw [← hw1, ← hz0, heap_alloc_old _ _ _ (by simp)]; exact heap_alloc_at _ _ _ _ (by simp)
    · rw [← hw1, ← hz0]; exact heap_alloc_at _ _ _ _ (by simp)
  obtain ⟨z3, hz3⟩ : ∃ z, z0 + 1 + 1 + 1 = z := ⟨_, rfl⟩
  obtain ⟨z2, hz2⟩ : ∃ z, z0 + 1 + 1 = z := ⟨_, rfl⟩
  obtain ⟨z1, hz1⟩ : ∃ z, z0 + 1 = z := ⟨_, rfl⟩
  rw [hz0]
  rw [hw1, hz3, hz2, hz1]
  rw [hz3, hz2] at hF
  rw [hz1] at h1
  have hne : z2 ≠ z3 := by omega
  have hne' : z3 ≠ z2 := by omega
  have HZ := Lib.hid (show w.heap.size ≤ z2 ∧ w.heap.size ≤ z3 by omega)
  have a0 := cell_of h0 (i := 0) (u := .int .i64 b.ms) rfl
  have a1 := cell_of h0 (i := 1) (u := .int .i64 b.ht) rfl
  have a2 := cell_of h0 (i := 2) (u := .slice A N c) rfl
  have e1 := cell_of h1 (i := 1) (u := .int .i64 n) rfl
  have e2 := cell_of h1 (i := 2) (u := .int .i64 s) rfl
  have H1 := Lib.hid h1
  have HF := Lib.hid hF
  have HX1 := Lib.hid hx1
  have HP1 := Lib.hid (HPG.out w1 hx1)
  clear h0 h1 hF hx1 hz0 hz1 hz2 hz3 hw1 HPG
  go_upto_region 2 with (first | (go_at_call 91; refine (HP1.out).mono ?_; rintro z w2 (⟨hpn, rfl, hx2⟩ | ⟨p, A7, n7, c7, A8, n8, c8, hps, rfl, hc7, hc8, hr7, hr8, hx2⟩)))
  · have hx3 : Ext w1 (w2.alloc (.cells #[.int .i64 0, .int .i64 0, .int .i64 0, .int .i64 0, .slice none 0 0, .slice none 0 0] 84)) := hx2.alloc _
    have hp3 := heap_alloc_new w2 (.cells #[.int .i64 0, .int .i64 0, .int .i64 0, .int .i64 0, .slice none 0 0, .slice none 0 0] 84)
    have hw23 := (Ext.refl w2).alloc (.cells #[.int .i64 0, .int .i64 0, .int .i64 0, .int .i64 0, .slice none 0 0, .slice none 0 0] 84)
    obtain ⟨w3, hw3⟩ : ∃ w3, w2.alloc (.cells #[.int .i64 0, .int .i64 0, .int .i64 0, .int .i64 0, .slice none 0 0, .slice none 0 0] 84) = w3 := ⟨_, rfl⟩
    obtain ⟨z7, hz7⟩ : ∃ z, w2.heap.size = z := ⟨_, rfl⟩
    rw [hw3] at hx3 hp3 hw23 ⊢
    rw [hz7] at hp3 ⊢
    have hn72 : z7 ≠ z2 := by have := lt_of_block HF.out.h2; have := hx2.lt; omega
    have hn73 : z7 ≠ z3 := by have := lt_of_block HF.out.h3; have := hx2.lt; omega
    have hn27 : z2 ≠ z7 := fun e => hn72 e.symm
    have hn37 : z3 ≠ z7 := fun e => hn73 e.symm
    have e3 := cell_of ((hx3.block _ (lt_of_block H1.out)).trans H1.out) (i := 3) (u := .int .i64 line) rfl
    have hf := HF.out.ext hx3
    have k0 := cell_of hf.h2 (i := 0) (u := .int .i64 0) rfl
    have k1 := cell_of hf.h2 (i := 1) (u := .int .i64 0) rfl
    have k2 := cell_of hf.h2 (i := 2) (u := .int .i64 0) rfl
    have k3 := cell_of hf.h2 (i := 3) (u := .int .i64 0) rfl
    have k4 := cell_of hf.h2 (i := 4) (u := .slice none 0 0) rfl
    have k5 := cell_of hf.h2 (i := 5) (u := .slice none 0 0) rfl
    have f0 := frozen_of hf.h2 0
    have f1 := frozen_of hf.h2 1
    have f2 := frozen_of hf.h2 2
    have f3 := frozen_of hf.h2 3
    have f4 := frozen_of hf.h2 4
    have f5 := frozen_of hf.h2 5
    have m0 := cell_of hf.h3 (i := 0) (u := .int .i64 0) rfl
    have m1 := cell_of hf.h3 (i := 1) (u := .int .i64 0) rfl
    have m2 := cell_of hf.h3 (i := 2) (u := .slice none 0 0) rfl
    have m3 := cell_of hf.h3 (i := 3) (u := .slice none 0 0) rfl
    have g0 := frozen_of hf.h3 0
    have g1 := frozen_of hf.h3 1
    have g2 := frozen_of hf.h3 2
    have g3 := frozen_of hf.h3 3
    have HX3 := Lib.hid (HX1.out.trans hx3)
    have HF3 := Lib.hid hf
    clear hw3 hz7 hx2 hf a0 a1 a2 e1 e2 HP1
    obtain ⟨q, hq⟩ : ∃ q : Int, line - 1 = q := ⟨_, rfl⟩
    have hq0 : -9223372036854775808 ≤ line - 1 := by omega
    have hq1 : line - 1 ≤ 9223372036854775807 := by omega
    have HC := Lib.hid (show citP b n s line = none by unfold citP; rw [hpn]; rfl)
    clear hpn hx3 hp3 hw23
    go_wp2_with fail
    obtain ⟨Y, hY⟩ : ∃ Y, ((((((((((w3.setCell ⟨z2, 0, none⟩ (.int .i64 0)).setCell ⟨z2, 1, none⟩ (.int .i64 0)).setCell ⟨z2, 2, none⟩ (.int .i64 0)).setCell ⟨z2, 3, none⟩ (.int .i64 0)).setCell ⟨z2, 4, none⟩ (.slice none 0 0)).setCell ⟨z2, 5, none⟩ (.slice none 0 0)).setCell ⟨z3, 0, none⟩ (.int .i64 0)).setCell ⟨z3, 1, none⟩ (.int .i64 0)).setCell ⟨z3, 2, none⟩ (.slice none 0 0)).setCell ⟨z3, 3, none⟩ (.slice none 0 0)) = Y := ⟨_, rfl⟩
    have hs := st10 hne HF3.out.h2 HF3.out.h3 (.int .i64 0) (.int .i64 0) (.int .i64 0) (.int .i64 0) (.slice none 0 0) (.slice none 0 0) (.int .i64 0) (.int .i64 0) (.slice none 0 0) (.slice none 0 0)
    rw [hY] at hs ⊢
    have t0 := cell_of hs.h2 (i := 0) rfl
    have t1 := cell_of hs.h2 (i := 1) rfl
    have t2 := cell_of hs.h2 (i := 2) rfl
    have t3 := cell_of hs.h2 (i := 3) rfl
    have t4 := cell_of hs.h2 (i := 4) rfl
    have t5 := cell_of hs.h2 (i := 5) rfl
    have s0 := cell_of hs.h3 (i := 0) rfl
    have s1 := cell_of hs.h3 (i := 1) rfl
    have s2 := cell_of hs.h3 (i := 2) rfl
    have s3 := cell_of hs.h3 (i := 3) rfl
    refine bodyPost_ret (v := .tuple #[.agg #[.int .i64 0, .int .i64 0, .int .i64 0, .int .i64 0, .slice none 0 0, .slice none 0 0], .agg #[.int .i64 0, .int .i64 0, .slice none 0 0, .slice none 0 0], .bool false]) (by simp [results, Tryz.results44, go_sem, t0, t1, t2, t3, t4, t5, s0, s1, s2, s3]) rfl ?_
    exact ⟨hs.ext w HZ.out.1 HZ.out.2 HX3.out, .inl ⟨HC.out, rfl⟩⟩
  · have hx3 : Ext w1 (w2.alloc (.cells #[.int .i64 p.num, .int .i64 p.suf, .int .i64 p.ent, .int .i64 p.ver, .slice A7 n7 c7, .slice A8 n8 c8] 84)) := hx2.alloc _
    have hp3 := heap_alloc_new w2 (.cells #[.int .i64 p.num, .int .i64 p.suf, .int .i64 p.ent, .int .i64 p.ver, .slice A7 n7 c7, .slice A8 n8 c8] 84)
    have hw23 := (Ext.refl w2).alloc (.cells #[.int .i64 p.num, .int .i64 p.suf, .int .i64 p.ent, .int .i64 p.ver, .slice A7 n7 c7, .slice A8 n8 c8] 84)
    obtain ⟨w3, hw3⟩ : ∃ w3, w2.alloc (.cells #[.int .i64 p.num, .int .i64 p.suf, .int .i64 p.ent, .int .i64 p.ver, .slice A7 n7 c7, .slice A8 n8 c8] 84) = w3 := ⟨_, rfl⟩
    obtain ⟨z7, hz7⟩ : ∃ z, w2.heap.size = z := ⟨_, rfl⟩
    rw [hw3] at hx3 hp3 hw23 ⊢
    rw [hz7] at hp3 ⊢
    have hn72 : z7 ≠ z2 := by have := lt_of_block HF.out.h2; have := hx2.lt; omega
    have hn73 : z7 ≠ z3 := by have := lt_of_block HF.out.h3; have := hx2.lt; omega
    have hn27 : z2 ≠ z7 := fun e => hn72 e.symm
    have hn37 : z3 ≠ z7 := fun e => hn73 e.symm
    have e3 := cell_of ((hx3.block _ (lt_of_block H1.out)).trans H1.out) (i := 3) (u := .int .i64 line) rfl
    have hf := HF.out.ext hx3
    have k0 := cell_of hf.h2 (i := 0) (u := .int .i64 0) rfl
    have k1 := cell_of hf.h2 (i := 1) (u := .int .i64 0) rfl
    have k2 := cell_of hf.h2 (i := 2) (u := .int .i64 0) rfl
    have k3 := cell_of hf.h2 (i := 3) (u := .int .i64 0) rfl
    have k4 := cell_of hf.h2 (i := 4) (u := .slice none 0 0) rfl
    have k5 := cell_of hf.h2 (i := 5) (u := .slice none 0 0) rfl
    have f0 := frozen_of hf.h2 0
    have f1 := frozen_of hf.h2 1
    have f2 := frozen_of hf.h2 2
    have f3 := frozen_of hf.h2 3
    have f4 := frozen_of hf.h2 4
    have f5 := frozen_of hf.h2 5
    have m0 := cell_of hf.h3 (i := 0) (u := .int .i64 0) rfl
    have m1 := cell_of hf.h3 (i := 1) (u := .int .i64 0) rfl
    have m2 := cell_of hf.h3 (i := 2) (u := .slice none 0 0) rfl
    have m3 := cell_of hf.h3 (i := 3) (u := .slice none 0 0) rfl
    have g0 := frozen_of hf.h3 0
    have g1 := frozen_of hf.h3 1
    have g2 := frozen_of hf.h3 2
    have g3 := frozen_of hf.h3 3
    have HX3 := Lib.hid (HX1.out.trans hx3)
    have HF3 := Lib.hid hf
    clear hw3 hz7 hx2 hf a0 a1 a2 e1 e2 HP1
    obtain ⟨q, hq⟩ : ∃ q : Int, line - 1 = q := ⟨_, rfl⟩
    have hq0 : -9223372036854775808 ≤ line - 1 := by omega
    have hq1 : line - 1 ≤ 9223372036854775807 := by omega
    obtain ⟨hb1, hb2⟩ := HPL.out p hps
    have e7 := Lay.row_len hr7
    have e8 := Lay.row_len hr8
    have hn7 : n7 ≤ 1000 := by omega
    have hn8 : n8 ≤ 1000 := by omega
    have HE := Lib.hid (And.intro e7 e8)
    have HPS := Lib.hid hps
    have h23 : Ext w2 w3 := hw23
    have HR7 := Lib.hid (Lay.row_ext hr7 h23)
    have HR8 := Lib.hid (Lay.row_ext hr8 h23)
    have p0 := cell_of hp3 (i := 0) (u := .int .i64 p.num) rfl
    have p1 := cell_of hp3 (i := 1) (u := .int .i64 p.suf) rfl
    have p2 := cell_of hp3 (i := 2) (u := .int .i64 p.ent) rfl
    have p3 := cell_of hp3 (i := 3) (u := .int .i64 p.ver) rfl
    have p4 := cell_of hp3 (i := 4) (u := .slice A7 n7 c7) rfl
    have p5 := cell_of hp3 (i := 5) (u := .slice A8 n8 c8) rfl
    clear hps hx3 hp3 h23 hw23 hr7 hr8 e7 e8 hb1 hb2 HPL hq
    by_cases hl : line < 1
    · have HC := Lib.hid (show citP b n s line = none by unfold citP; rw [HPS.out]; exact if_pos hl)
      have hq2 : line - 1 < 0 := by omega
      go_wp2_with fail
      obtain ⟨Y, hY⟩ : ∃ Y, ((((((((((w3.setCell ⟨z2, 0, none⟩ (.int .i64 0)).setCell ⟨z2, 1, none⟩ (.int .i64 0)).setCell ⟨z2, 2, none⟩ (.int .i64 0)).setCell ⟨z2, 3, none⟩ (.int .i64 0)).setCell ⟨z2, 4, none⟩ (.slice none 0 0)).setCell ⟨z2, 5, none⟩ (.slice none 0 0)).setCell ⟨z3, 0, none⟩ (.int .i64 0)).setCell ⟨z3, 1, none⟩ (.int .i64 0)).setCell ⟨z3, 2, none⟩ (.slice none 0 0)).setCell ⟨z3, 3, none⟩ (.slice none 0 0)) = Y := ⟨_, rfl⟩
      have hs := st10 hne HF3.out.h2 HF3.out.h3 (.int .i64 0) (.int .i64 0) (.int .i64 0) (.int .i64 0) (.slice none 0 0) (.slice none 0 0) (.int .i64 0) (.int .i64 0) (.slice none 0 0) (.slice none 0 0)
      rw [hY] at hs ⊢
      have t0 := cell_of hs.h2 (i := 0) rfl
      have t1 := cell_of hs.h2 (i := 1) rfl
      have t2 := cell_of hs.h2 (i := 2) rfl
      have t3 := cell_of hs.h2 (i := 3) rfl
      have t4 := cell_of hs.h2 (i := 4) rfl
      have t5 := cell_of hs.h2 (i := 5) rfl
      have s0 := cell_of hs.h3 (i := 0) rfl
      have s1 := cell_of hs.h3 (i := 1) rfl
      have s2 := cell_of hs.h3 (i := 2) rfl
      have s3 := cell_of hs.h3 (i := 3) rfl
      refine bodyPost_ret (v := .tuple #[.agg #[.int .i64 0, .int .i64 0, .int .i64 0, .int .i64 0, .slice none 0 0, .slice none 0 0], .agg #[.int .i64 0, .int .i64 0, .slice none 0 0, .slice none 0 0], .bool false]) (by simp [results, Tryz.results44, go_sem, t0, t1, t2, t3, t4, t5, s0, s1, s2, s3]) rfl ?_
      exact ⟨hs.ext w HZ.out.1 HZ.out.2 HX3.out, .inl ⟨HC.out, rfl⟩⟩
    obtain ⟨i, hi⟩ : ∃ i : Nat, line - 1 = (i : Int) := ⟨(line - 1).toNat, by omega⟩
    have HI := Lib.hid (show (line - 1).toNat = i by omega)
    have HC := Lib.hid (show citP b n s line = ((p.body ++ p.nts)[i]?).map fun x => (p, x) by
      unfold citP; rw [HPS.out, Option.bind_some, if_neg hl, HI.out])
    have hi0 : ¬ (i : Int) < 0 := by omega
    by_cases h7 : i < n7
    · have gI : decide ((i : Int) < (n7 : Int)) = true := by rw [decide_eq_true_eq]; omega
      have gI2 : decide (i < n7) = true := by simpa using h7
      have hI : ((i : Nat) : Int) < (n7 : Int) := by omega
      obtain ⟨x, hx⟩ : ∃ x, p.body[i]? = some x := ⟨_, List.getElem?_eq_getElem (by have := HE.out.1; have := HE.out.2; omega)⟩
      obtain ⟨bl, ol, cl, rfl, hbl, hPl, hrl, hcl⟩ := Lay.row_at HR7.out hx
      obtain ⟨B1, m1', l1, B2, m2', l2, rfl, hm1, hm2, hg1, hg2⟩ := kLn_rep.1 hrl
      have y0 := hcl 0 _ rfl
      have y1 := hcl 1 _ rfl
      have y2 := hcl 2 _ rfl
      have y3 := hcl 3 _ rfl
      rw [kLn_sz] at y0 y1 y2 y3
      rw [Nat.add_zero] at y0
      have hl2 : bl ≠ z2 := by have := lt_of_block HF.out.h2; omega
      have hl3 : bl ≠ z3 := by have := lt_of_block HF.out.h3; omega
      have hl2' : z2 ≠ bl := fun e => hl2 e.symm
      have hl3' : z3 ≠ bl := fun e => hl3 e.symm
      have HCX := Lib.hid (show citP b n s line = some (p, x) by rw [HC.out, List.getElem?_append_left (by have := HE.out.1; omega), hx]; rfl)
      have HG := Lib.hid (And.intro hg1 hg2)
      clear hrl hcl hx hg1 hg2
      go_upto_region 6 with (fail)
      go_region_held3 (fun W => W.cell? ⟨z7, 0, none⟩ = some (.int .i64 p.num) ∧ W.cell? ⟨z7, 1, none⟩ = some (.int .i64 p.suf) ∧ W.cell? ⟨z7, 2, none⟩ = some (.int .i64 p.ent) ∧ W.cell? ⟨z7, 3, none⟩ = some (.int .i64 p.ver) ∧ W.cell? ⟨z7, 4, none⟩ = some (.slice (some ⟨bl, ol, none⟩) n7 c7) ∧ W.cell? ⟨z7, 5, none⟩ = some (.slice A8 n8 c8) ∧ W.cell? ⟨bl, ol + i * 4, none⟩ = some (.int .i64 x.fr) ∧ W.cell? ⟨bl, ol + i * 4 + 1, none⟩ = some (.int .i64 x.un) ∧ W.cell? ⟨bl, ol + i * 4 + 2, none⟩ = some (.slice B1 m1' l1) ∧ W.cell? ⟨bl, ol + i * 4 + 3, none⟩ = some (.slice B2 m2' l2)) (go_keep) (fail)
      obtain ⟨Y, hY⟩ : ∃ Y, ((((((((((w3.setCell ⟨z2, 0, none⟩ (.int .i64 p.num)).setCell ⟨z2, 1, none⟩ (.int .i64 p.suf)).setCell ⟨z2, 2, none⟩ (.int .i64 p.ent)).setCell ⟨z2, 3, none⟩ (.int .i64 p.ver)).setCell ⟨z2, 4, none⟩ (.slice (some ⟨bl, ol, none⟩) n7 c7)).setCell ⟨z2, 5, none⟩ (.slice A8 n8 c8)).setCell ⟨z3, 0, none⟩ (.int .i64 x.fr)).setCell ⟨z3, 1, none⟩ (.int .i64 x.un)).setCell ⟨z3, 2, none⟩ (.slice B1 m1' l1)).setCell ⟨z3, 3, none⟩ (.slice B2 m2' l2)) = Y := ⟨_, rfl⟩
      have hs := st10 hne HF3.out.h2 HF3.out.h3 (.int .i64 p.num) (.int .i64 p.suf) (.int .i64 p.ent) (.int .i64 p.ver) (.slice (some ⟨bl, ol, none⟩) n7 c7) (.slice A8 n8 c8) (.int .i64 x.fr) (.int .i64 x.un) (.slice B1 m1' l1) (.slice B2 m2' l2)
      rw [hY] at hs ⊢
      have h2d : (Y.drew).heap[z2]? = _ := hs.h2
      have h3d : (Y.drew).heap[z3]? = _ := hs.h3
      have t0 := cell_of h2d (i := 0) rfl
      have t1 := cell_of h2d (i := 1) rfl
      have t2 := cell_of h2d (i := 2) rfl
      have t3 := cell_of h2d (i := 3) rfl
      have t4 := cell_of h2d (i := 4) rfl
      have t5 := cell_of h2d (i := 5) rfl
      have s0 := cell_of h3d (i := 0) rfl
      have s1 := cell_of h3d (i := 1) rfl
      have s2 := cell_of h3d (i := 2) rfl
      have s3 := cell_of h3d (i := 3) rfl
      go_wp2_with fail
      refine bodyPost_ret (v := .tuple #[.agg #[.int .i64 p.num, .int .i64 p.suf, .int .i64 p.ent, .int .i64 p.ver, .slice (some ⟨bl, ol, none⟩) n7 c7, .slice A8 n8 c8], .agg #[.int .i64 x.fr, .int .i64 x.un, .slice B1 m1' l1, .slice B2 m2' l2], .bool true]) (by simp [results, Tryz.results44, go_sem, t0, t1, t2, t3, t4, t5, s0, s1, s2, s3]) rfl ?_
      have hkp : ∀ j, w1.heap.size ≤ j → Y.heap[j]? = w3.heap[j]? := fun j hj => hs.keep j (by have := lt_of_block HF.out.h2; omega) (by have := lt_of_block HF.out.h3; omega)
      exact ⟨(hs.ext w HZ.out.1 HZ.out.2 HX3.out).drew, .inr ⟨p, x, _, _, _, _, _, _, _, _, _, _, _, _, HCX.out, rfl, hc7, hc8, Lay.row_mono (Lay.row_keep HR7.out (by show w3.heap.size ≤ Y.heap.size; rw [hs.size]; exact Nat.le_refl _) fun j hj _ => hkp j hj) fun j hj _ => Nat.le_trans HX1.out.lt hj, Lay.row_mono (Lay.row_keep HR8.out (by show w3.heap.size ≤ Y.heap.size; rw [hs.size]; exact Nat.le_refl _) fun j hj _ => hkp j hj) fun j hj _ => Nat.le_trans HX1.out.lt hj,
        Lay.row_mono (Lay.row_keep HG.out.1 (by show w3.heap.size ≤ Y.heap.size; rw [hs.size]; exact Nat.le_refl _) fun j hj _ => hkp j hj) fun j hj _ => Nat.le_trans HX1.out.lt hj, Lay.row_mono (Lay.row_keep HG.out.2 (by show w3.heap.size ≤ Y.heap.size; rw [hs.size]; exact Nat.le_refl _) fun j hj _ => hkp j hj) fun j hj _ => Nat.le_trans HX1.out.lt hj, hm1, hm2⟩⟩
    obtain ⟨k, rfl⟩ : ∃ k, i = n7 + k := ⟨i - n7, by omega⟩
    have hi' : line - 1 = (n7 : Int) + (k : Int) := by omega
    clear hi
    have gI : decide ((n7 : Int) + (k : Int) < (n7 : Int)) = false := by rw [decide_eq_false_iff_not]; omega
    have hnI : ¬ (n7 : Int) + (k : Int) < (n7 : Int) := by omega
    by_cases h8 : k < n8
    · have gJ : decide ((n7 : Int) + (k : Int) < (n7 : Int) + (n8 : Int)) = true := by rw [decide_eq_true_eq]; omega
      have hJ : (n7 : Int) + (k : Int) < (n7 : Int) + (n8 : Int) := by omega
      have hI : ((k : Nat) : Int) < (n8 : Int) := by omega
      obtain ⟨x, hx⟩ : ∃ x, p.nts[k]? = some x := ⟨_, List.getElem?_eq_getElem (by have := HE.out.1; have := HE.out.2; omega)⟩
      obtain ⟨bl, ol, cl, rfl, hbl, hPl, hrl, hcl⟩ := Lay.row_at HR8.out hx
      obtain ⟨B1, m1', l1, B2, m2', l2, rfl, hm1, hm2, hg1, hg2⟩ := kLn_rep.1 hrl
      have y0 := hcl 0 _ rfl
      have y1 := hcl 1 _ rfl
      have y2 := hcl 2 _ rfl
      have y3 := hcl 3 _ rfl
      rw [kLn_sz] at y0 y1 y2 y3
      rw [Nat.add_zero] at y0
      have hl2 : bl ≠ z2 := by have := lt_of_block HF.out.h2; omega
      have hl3 : bl ≠ z3 := by have := lt_of_block HF.out.h3; omega
      have hl2' : z2 ≠ bl := fun e => hl2 e.symm
      have hl3' : z3 ≠ bl := fun e => hl3 e.symm
      have HCX := Lib.hid (show citP b n s line = some (p, x) by rw [HC.out, List.getElem?_append_right (by have := HE.out.1; omega), show n7 + k - p.body.length = k by have := HE.out.1; omega, hx]; rfl)
      have HG := Lib.hid (And.intro hg1 hg2)
      clear hrl hcl hx hg1 hg2 h7
      go_upto_region 8 with (fail)
      have gS : IntKind.i64.wrap ((n7 : Int) + (k : Int) - (n7 : Int)) = (k : Int) := by rw [show (n7 : Int) + (k : Int) - (n7 : Int) = (k : Int) by omega]; exact IntWalk.i64_in _ (by omega)
      go_region_held3 (fun W => W.cell? ⟨z7, 0, none⟩ = some (.int .i64 p.num) ∧ W.cell? ⟨z7, 1, none⟩ = some (.int .i64 p.suf) ∧ W.cell? ⟨z7, 2, none⟩ = some (.int .i64 p.ent) ∧ W.cell? ⟨z7, 3, none⟩ = some (.int .i64 p.ver) ∧ W.cell? ⟨z7, 4, none⟩ = some (.slice A7 n7 c7) ∧ W.cell? ⟨z7, 5, none⟩ = some (.slice (some ⟨bl, ol, none⟩) n8 c8) ∧ W.cell? ⟨bl, ol + k * 4, none⟩ = some (.int .i64 x.fr) ∧ W.cell? ⟨bl, ol + k * 4 + 1, none⟩ = some (.int .i64 x.un) ∧ W.cell? ⟨bl, ol + k * 4 + 2, none⟩ = some (.slice B1 m1' l1) ∧ W.cell? ⟨bl, ol + k * 4 + 3, none⟩ = some (.slice B2 m2' l2)) (go_keep) (fail)
      obtain ⟨Y, hY⟩ : ∃ Y, ((((((((((w3.setCell ⟨z2, 0, none⟩ (.int .i64 p.num)).setCell ⟨z2, 1, none⟩ (.int .i64 p.suf)).setCell ⟨z2, 2, none⟩ (.int .i64 p.ent)).setCell ⟨z2, 3, none⟩ (.int .i64 p.ver)).setCell ⟨z2, 4, none⟩ (.slice A7 n7 c7)).setCell ⟨z2, 5, none⟩ (.slice (some ⟨bl, ol, none⟩) n8 c8)).setCell ⟨z3, 0, none⟩ (.int .i64 x.fr)).setCell ⟨z3, 1, none⟩ (.int .i64 x.un)).setCell ⟨z3, 2, none⟩ (.slice B1 m1' l1)).setCell ⟨z3, 3, none⟩ (.slice B2 m2' l2)) = Y := ⟨_, rfl⟩
      have hs := st10 hne HF3.out.h2 HF3.out.h3 (.int .i64 p.num) (.int .i64 p.suf) (.int .i64 p.ent) (.int .i64 p.ver) (.slice A7 n7 c7) (.slice (some ⟨bl, ol, none⟩) n8 c8) (.int .i64 x.fr) (.int .i64 x.un) (.slice B1 m1' l1) (.slice B2 m2' l2)
      rw [hY] at hs ⊢
      have h2d : (Y.drew).heap[z2]? = _ := hs.h2
      have h3d : (Y.drew).heap[z3]? = _ := hs.h3
      have t0 := cell_of h2d (i := 0) rfl
      have t1 := cell_of h2d (i := 1) rfl
      have t2 := cell_of h2d (i := 2) rfl
      have t3 := cell_of h2d (i := 3) rfl
      have t4 := cell_of h2d (i := 4) rfl
      have t5 := cell_of h2d (i := 5) rfl
      have s0 := cell_of h3d (i := 0) rfl
      have s1 := cell_of h3d (i := 1) rfl
      have s2 := cell_of h3d (i := 2) rfl
      have s3 := cell_of h3d (i := 3) rfl
      go_wp2_with fail
      refine bodyPost_ret (v := .tuple #[.agg #[.int .i64 p.num, .int .i64 p.suf, .int .i64 p.ent, .int .i64 p.ver, .slice A7 n7 c7, .slice (some ⟨bl, ol, none⟩) n8 c8], .agg #[.int .i64 x.fr, .int .i64 x.un, .slice B1 m1' l1, .slice B2 m2' l2], .bool true]) (by simp [results, Tryz.results44, go_sem, t0, t1, t2, t3, t4, t5, s0, s1, s2, s3]) rfl ?_
      have hkp : ∀ j, w1.heap.size ≤ j → Y.heap[j]? = w3.heap[j]? := fun j hj => hs.keep j (by have := lt_of_block HF.out.h2; omega) (by have := lt_of_block HF.out.h3; omega)
      exact ⟨(hs.ext w HZ.out.1 HZ.out.2 HX3.out).drew, .inr ⟨p, x, _, _, _, _, _, _, _, _, _, _, _, _, HCX.out, rfl, hc7, hc8, Lay.row_mono (Lay.row_keep HR7.out (by show w3.heap.size ≤ Y.heap.size; rw [hs.size]; exact Nat.le_refl _) fun j hj _ => hkp j hj) fun j hj _ => Nat.le_trans HX1.out.lt hj, Lay.row_mono (Lay.row_keep HR8.out (by show w3.heap.size ≤ Y.heap.size; rw [hs.size]; exact Nat.le_refl _) fun j hj _ => hkp j hj) fun j hj _ => Nat.le_trans HX1.out.lt hj,
        Lay.row_mono (Lay.row_keep HG.out.1 (by show w3.heap.size ≤ Y.heap.size; rw [hs.size]; exact Nat.le_refl _) fun j hj _ => hkp j hj) fun j hj _ => Nat.le_trans HX1.out.lt hj, Lay.row_mono (Lay.row_keep HG.out.2 (by show w3.heap.size ≤ Y.heap.size; rw [hs.size]; exact Nat.le_refl _) fun j hj _ => hkp j hj) fun j hj _ => Nat.le_trans HX1.out.lt hj, hm1, hm2⟩⟩
    have gJ : decide ((n7 : Int) + (k : Int) < (n7 : Int) + (n8 : Int)) = false := by rw [decide_eq_false_iff_not]; omega
    have hJ : ¬ (n7 : Int) + (k : Int) < (n7 : Int) + (n8 : Int) := by omega
    have HC0 := Lib.hid (show citP b n s line = none by rw [HC.out, List.getElem?_eq_none (by rw [List.length_append]; have := HE.out.1; have := HE.out.2; omega)]; rfl)
    clear h7
    go_wp2_with fail
    obtain ⟨Y, hY⟩ : ∃ Y, ((((((((((w3.setCell ⟨z2, 0, none⟩ (.int .i64 0)).setCell ⟨z2, 1, none⟩ (.int .i64 0)).setCell ⟨z2, 2, none⟩ (.int .i64 0)).setCell ⟨z2, 3, none⟩ (.int .i64 0)).setCell ⟨z2, 4, none⟩ (.slice none 0 0)).setCell ⟨z2, 5, none⟩ (.slice none 0 0)).setCell ⟨z3, 0, none⟩ (.int .i64 0)).setCell ⟨z3, 1, none⟩ (.int .i64 0)).setCell ⟨z3, 2, none⟩ (.slice none 0 0)).setCell ⟨z3, 3, none⟩ (.slice none 0 0)) = Y := ⟨_, rfl⟩
    have hs := st10 hne HF3.out.h2 HF3.out.h3 (.int .i64 0) (.int .i64 0) (.int .i64 0) (.int .i64 0) (.slice none 0 0) (.slice none 0 0) (.int .i64 0) (.int .i64 0) (.slice none 0 0) (.slice none 0 0)
    rw [hY] at hs ⊢
    have h2d : (Y).heap[z2]? = _ := hs.h2
    have h3d : (Y).heap[z3]? = _ := hs.h3
    have t0 := cell_of h2d (i := 0) rfl
    have t1 := cell_of h2d (i := 1) rfl
    have t2 := cell_of h2d (i := 2) rfl
    have t3 := cell_of h2d (i := 3) rfl
    have t4 := cell_of h2d (i := 4) rfl
    have t5 := cell_of h2d (i := 5) rfl
    have s0 := cell_of h3d (i := 0) rfl
    have s1 := cell_of h3d (i := 1) rfl
    have s2 := cell_of h3d (i := 2) rfl
    have s3 := cell_of h3d (i := 3) rfl
    refine bodyPost_ret (v := .tuple #[.agg #[.int .i64 0, .int .i64 0, .int .i64 0, .int .i64 0, .slice none 0 0, .slice none 0 0], .agg #[.int .i64 0, .int .i64 0, .slice none 0 0, .slice none 0 0], .bool false]) (by simp [results, Tryz.results44, go_sem, t0, t1, t2, t3, t4, t5, s0, s1, s2, s3]) rfl ?_
    exact ⟨hs.ext w HZ.out.1 HZ.out.2 HX3.out, .inl ⟨HC0.out, rfl⟩⟩
end Go.Proofs.YtdbnddmncbjobaaGreatDoor
