/- The production's expr. -/
import Derived.Test.YtnpenepdechkjaaGreatDoorMd
import Derived.Test.YtnpenepdechkjaaGreatDoorMc
namespace Go.Proofs.YtnpenepdechkjaaGreatDoor
open Go Go.RowKit

def CutX (W : World) (v : Value) (s9 : Value) (wx : World) : Prop := s9 = v ∧ Ext W wx
def atM (N b : Nat) (X : World) : Nat := match X.cell? ⟨b, 1, none⟩ with | some (.int _ z) => N - z.toNat | _ => 0
theorem PB.meas {W : World} {b : Nat} {A : Option Addr} {N c : Nat} {toks : List Tk} {a o : Nat} (h : PB W b A N c toks a o) : atM N b W = N - a := by unfold atM; rw [h.c1]; simp
theorem NX.fin {X : World} {g : Nat} {k n k' n' : Int} {S S' : ByteArray} {v v' : Value} (h : NX X g k n S v) : NX (fin4 X g (.int .i64 k') (.int .i64 n') (.string S') v') g k' n' S' v' :=
  (heap_setCell_same _ g 3 _ 31 _ ((heap_setCell_same _ g 2 _ 31 _ ((heap_setCell_same _ g 1 _ 31 _ (heap_setCell_same X g 0 _ 31 _ h)))))).trans rfl
theorem fin4_other (X : World) (g k : Nat) (v0 v1 v2 v3 : Value) (h : k ≠ g) : (fin4 X g v0 v1 v2 v3).heap[k]? = X.heap[k]? := by
  unfold fin4
  rw [heap_setCell_other _ _ _ _ h, heap_setCell_other _ _ _ _ h, heap_setCell_other _ _ _ _ h, heap_setCell_other _ _ _ _ h]
theorem fin4_size (X : World) (g : Nat) (v0 v1 v2 v3 : Value) : (fin4 X g v0 v1 v2 v3).heap.size = X.heap.size := by simp [fin4]
def LpRel (W : World) (b : Nat) (A : Option Addr) (N c : Nat) (toks : List Tk) (a o : Nat) (E : Nat → Nat → List Tk → PR Tr) (lv : Nat) (RES : PR Tr) (g2 g7 : Nat) (X : World) : Prop :=
  ∃ (a' gf : Nat) (n : Nd) (t : Tr), a ≤ a' ∧ N - a' ≤ gf ∧ PB X b A N c toks a' o ∧ NX X g7 n.k n.n n.s (.slice n.A n.m n.c) ∧ Rep X (fun k => W.heap.size + 1 ≤ k ∧ k ≠ g7) n t ∧ NX X g2 0 0 ⟨#[]⟩ (.slice none 0 0) ∧ loopP E lv o gf t (toks.drop a') = RES ∧ Mv b W X
def CutN (W : World) (b : Nat) (A : Option Addr) (N c : Nat) (toks : List Tk) (a' o : Nat) (g2 g7 : Nat) (S : ByteArray) (t tb : Tr) (r3 : List Tk) (X : World) : Prop :=
  ∃ (a6 g9 : Nat) (n d2 : Nd), a' < a6 ∧ r3 = toks.drop a6 ∧ PB X b A N c toks a6 o ∧ NX X g7 6 0 S (.slice (some ⟨g9, 0, none⟩) 2 2) ∧ KR X (W.heap.size + 1) g7 (.slice (some ⟨g9, 0, none⟩) 2 2) [n, d2] [t, tb] ∧ NX X g2 0 0 ⟨#[]⟩ (.slice none 0 0) ∧ Mv b W X
theorem Mv.finG {W X : World} {b g : Nat} (h : Mv b W X) (hg : W.heap.size ≤ g) (v0 v1 v2 v3 : Value) : Mv b W (fin4 X g v0 v1 v2 v3) :=
  (((h.setNew (p := ⟨g, 0, none⟩) hg _).setNew (p := ⟨g, 1, none⟩) hg _).setNew (p := ⟨g, 2, none⟩) hg _).setNew (p := ⟨g, 3, none⟩) hg _
theorem lvOf_nil : lvOf [] = 0 := by decide
set_option maxHeartbeats 8000000 in
set_option maxRecDepth 100000 in
theorem pexpr_step {E : Nat → Nat → List Tk → PR Tr} {M : Nat} (hE : EC E M) : EC (stepP E) (M + 1) := by
  intro W b A N c toks a o lv h ho hl1 hl8 hms
  have HP := Lib.hid h
  have HLEN := Lib.hid h.len
  have hNa : a < N := h.at_
  obtain ⟨RES, hres⟩ : ∃ R, stepP E lv o (toks.drop a) = R := ⟨_, rfl⟩
  rw [hres]
  unfold stepP at hres
  obtain ⟨t, ht⟩ : ∃ t, hd (toks.drop a) = t := ⟨_, rfl⟩
  obtain ⟨S, hS⟩ : ∃ S, S = bs t.tx := ⟨_, rfl⟩
  have HN := Lib.hid (fun X (hX : Ext W X) => pnext_any (h.ext hX) S (by rw [ht]; exact hS))
  have HSE := Lib.hid hS
  have HT := Lib.hid ht
  rw [ht] at hres
  have HX0 := Lib.hid ((Ext.refl W).alloc (.cells #[.int .i64 0, .int .i64 0, .string ⟨#[]⟩, .slice none 0 0] 31))
  by_cases hu : lv = 3 ∧ t.tx = wNot ∨ lv = 7 ∧ t.tx = wMinus
  · rw [if_pos hu] at hres
    rcases hu with ⟨rfl, hx⟩ | ⟨rfl, hx⟩
    · have hb : (S.toList == [110, 111, 116]) = true := by rw [HSE.out, bs_list, hx]; decide
      have hsne : t.tx ≠ [] := by rw [hx]; decide
      have HO := Lib.hid (fun X (hX : Ext W X) => popens_any (h.ext hX) ho t.tx S hS hsne)
      cases hO : opensP t.tx o (toks.drop a) with
      | bad rr er =>
        rw [hO] at HO
        rw [hO, PR.bind_bad] at hres
        subst hres
        clear h ht hS hx hsne hO
        go_enter Tryz.func87, Tryz.ntmps87
        go_wp2_with (first
        | (have hg := hx2; clear hg; go_at_call 77; refine (HN.out _ (HX0.out.trans hx2)).mono ?_; rintro e w3 ⟨rfl, hx3⟩; have hxa := (HX0.out.trans hx2).trans hx3)
        | (go_at_call 77; refine (HN.out _ HX0.out).mono ?_; rintro e w2 ⟨rfl, hx2⟩)
        | (go_at_call 127; refine (HO.out _ hxa).mono ?_; rintro e w4 ⟨a4, o4, rfl, ha4, hr4, hp4, hm4⟩; have HR4 := Lib.hid hr4; clear hr4))
        exact ⟨rfl, a4, o4, rfl, ha4, HR4.out, hp4, (Mv.of_ext hxa).trans hm4⟩
      | ok u r1 =>
        rw [hO] at HO
        rw [hO, PR.bind_ok] at hres
        have ho11 : o + 1 ≤ 12 := by have := (opens_ok hO).2.1; omega
        have HO1 := Lib.hid (opens_ok hO).1
        cases hA : E 3 (o + 1) r1 with
        | bad rr er =>
          have HA := Lib.hid hA
          rw [hA, PR.bind_bad] at hres
          subst hres
          clear h ht hS hx hsne hO hA
          go_enter Tryz.func87, Tryz.ntmps87
          go_wp2_with (first
          | (have hg := hx2; clear hg; go_at_call 77; refine (HN.out _ (HX0.out.trans hx2)).mono ?_; rintro e w3 ⟨rfl, hx3⟩; have hxa := (HX0.out.trans hx2).trans hx3)
          | (go_at_call 77; refine (HN.out _ HX0.out).mono ?_; rintro e w2 ⟨rfl, hx2⟩)
          | (go_at_call 127; refine (HO.out _ hxa).mono ?_; rintro e w4 ⟨v4, a4, rfl, rfl, ha4, hr4, hp4, hm4⟩; have HR4 := Lib.hid hr4; have HP4 := Lib.hid hp4; clear hr4 hp4)
          | (go_at_call 87; have h9 : Calls Tryz.prog 87 #[.pointer (some ⟨b, 0, none⟩), .int .i64 3] w4 (GP b A N c toks a4 (o + 1) (RT w4.heap.size) w4 (E 3 (o + 1) (toks.drop a4))) := hE w4 b A N c toks a4 (o + 1) 3 HP4.out ho11 (by omega) (by omega) (by have := drop_at (by rw [← HLEN.out]; exact HP4.out.at_) (HO1.out.symm.trans HR4.out); omega); rw [← HR4.out, HA.out] at h9; refine h9.mono ?_; clear h9; rintro e w5 ⟨a5, o5, rfl, ha5, hr5, hp5, hm5⟩; have HR5 := Lib.hid hr5; clear hr5))
          exact ⟨rfl, a5, o5, rfl, by omega, HR5.out, hp5, ((Mv.of_ext hxa).trans hm4).trans hm5⟩
        | ok ta r2 =>
          have HA := Lib.hid hA
          rw [hA, PR.bind_ok] at hres
          subst hres
          clear h ht hS hx hsne hO hA
          go_enter Tryz.func87, Tryz.ntmps87
          go_upto_region 6 with (first
          | (have hg := hx2; clear hg; go_at_call 77; refine (HN.out _ (HX0.out.trans hx2)).mono ?_; rintro e w3 ⟨rfl, hx3⟩; have hxa := (HX0.out.trans hx2).trans hx3)
          | (go_at_call 77; refine (HN.out _ HX0.out).mono ?_; rintro e w2 ⟨rfl, hx2⟩)
          | (go_at_call 127; refine (HO.out _ hxa).mono ?_; rintro e w4 ⟨v4, a4, rfl, rfl, ha4, hr4, hp4, hm4⟩; have HR4 := Lib.hid hr4; have HP4 := Lib.hid hp4; clear hr4 hp4)
          | (go_at_call 87; have h9 : Calls Tryz.prog 87 #[.pointer (some ⟨b, 0, none⟩), .int .i64 3] w4 (GP b A N c toks a4 (o + 1) (RT w4.heap.size) w4 (E 3 (o + 1) (toks.drop a4))) := hE w4 b A N c toks a4 (o + 1) 3 HP4.out ho11 (by omega) (by omega) (by have := drop_at (by rw [← HLEN.out]; exact HP4.out.at_) (HO1.out.symm.trans HR4.out); omega); rw [← HR4.out, HA.out] at h9; refine h9.mono ?_; clear h9; rintro e w5 ⟨v5, a5, rfl, ⟨d, rfl, hrep⟩, ha5, hr5, hp5, hm5⟩; have HR5 := Lib.hid hr5; have HP5 := Lib.hid hp5; have HREP := Lib.hid hrep; clear hr5 hp5 hrep))
          have hbW := HP.out.lt
          have h1s : W.heap.size + 1 ≤ w4.heap.size := by have h1 := (hx2.trans hx3).lt; have h2 := hm4.size; simp at h1; omega
          have h5s := hm5.size
          have hg2 : NX w5 W.heap.size 0 0 ⟨#[]⟩ (.slice none 0 0) := NX.mv (b := b) (show NX (W.alloc (.cells #[.int .i64 0, .int .i64 0, .string ⟨#[]⟩, .slice none 0 0] 31)) W.heap.size 0 0 ⟨#[]⟩ (.slice none 0 0) from heap_alloc_new _ _) (((Mv.of_ext (hx2.trans hx3)).trans hm4).trans hm5) (by omega)
          have hkr := KR.lit (X := w5) (base := W.heap.size + 1) (av := w5.heap.size + 1) [d] [ta] #[.int .i64 d.k, .int .i64 d.n, .string d.s, .slice d.A d.m d.c] rfl rfl (by simp) (fun i e t' h1 h2 => by
            have : i = 0 := by
              have := (List.getElem?_eq_some_iff.1 h1).1
              simpa using this
            subst this
            simp only [List.getElem?_cons_zero, Option.some.injEq] at h1 h2
            subst h1 h2
            exact HREP.out.mono fun k hk hk2 => by omega) (by omega) (by omega)
          obtain ⟨X1, hX1⟩ : ∃ X1, X1 = w5.alloc (.cells #[.int .i64 d.k, .int .i64 d.n, .string d.s, .slice d.A d.m d.c] 31) := ⟨_, rfl⟩
          obtain ⟨X2, hX2⟩ : ∃ X2, X2 = X1.alloc (.cells #[.int .i64 5, .int .i64 0, .string S, .slice (some ⟨w5.heap.size, 0, none⟩) 1 1] 31) := ⟨_, rfl⟩
          rw [← hX1] at hkr ⊢
          have hs1 : X1.heap.size = w5.heap.size + 1 := by rw [hX1]; simp
          have hx51 : Ext w5 X1 := by rw [hX1]; exact (Ext.refl _).alloc _
          have hx12 : Ext X1 X2 := by rw [hX2]; exact (Ext.refl _).alloc _
          have hn6 : NX X2 (w5.heap.size + 1) 5 0 S (.slice (some ⟨w5.heap.size, 0, none⟩) 1 1) := by rw [hX2, ← hs1]; exact heap_alloc_new _ _
          rw [← hX2]
          have hkr2 := hkr.mv (Mv.of_ext hx12 : Mv b _ _) (by omega)
          obtain ⟨A9, c9', e9', hrep9⟩ := hkr2.rep 5 0 t.tx
          simp only [List.length_cons, List.length_nil, Nat.zero_add, Value.slice.injEq] at e9' hrep9
          obtain ⟨rfl, _, rfl⟩ := e9'
          have HREP9 := Lib.hid hrep9
          obtain ⟨_, s0, s1, s2, s3, _, _, _, _⟩ := hn6.nb
          have hm52 : Mv b w5 X2 := Mv.of_ext (hx51.trans hx12)
          obtain ⟨_, j0, j1, j2, j3, jf0, jf1, jf2, jf3⟩ := (hg2.mv hm52 (by omega)).nb
          have HP2 := Lib.hid (HP5.out.ext (hx51.trans hx12))
          have c2 := HP2.out.c2
          have f2 := HP2.out.fz 2
          have hw : IntKind.i64.wrap (((o : Int) + 1) - 1) = (o : Int) := by rw [IntWalk.i64_in _ (by omega)]; omega
          rw [show ((o + 1 : Nat) : Int) = (o : Int) + 1 by omega] at c2
          have hmW := (((Mv.of_ext hxa).trans hm4).trans hm5).trans hm52
          have hb2 : ¬ b = W.heap.size := by omega
          have hb6 : ¬ b = w5.heap.size + 1 := by have := HP5.out.lt; omega
          have h26 : ¬ W.heap.size = w5.heap.size + 1 := by omega
          have HA5 := Lib.hid (show a ≤ a5 by omega)
          clear hX1 hX2 hkr hkr2 hs1 hx51 hx12 hn6 hg2 hrep9 hm52 h5s h1s hx2 hx3 hm4 hm5
          go_wp2
          refine bodyPost_ret (v := .agg #[.int .i64 5, .int .i64 0, .string S, .slice (some ⟨w5.heap.size, 0, none⟩) 1 1]) (by simp [results, Tryz.results87, go_sem, *]) rfl ?_
          exact ⟨_, a5, rfl, ⟨⟨5, 0, bs t.tx, some ⟨w5.heap.size, 0, none⟩, 1, 1⟩, by rw [HSE.out], ((HREP9.out.mono (Q := fun k => W.heap.size + 1 ≤ k) (fun k h1 _ => h1.1)).mv (Mv.set (b := b) (i := 2) (.int .i64 (o : Int))) (fun k h1 e => by omega)).fin (by omega) _ _ _ _⟩, HA5.out, HR5.out, HP.out.fin (HP2.out.set2 o) _ _ _ _, (hmW.trans (Mv.set _)).fin _ _ _ _⟩
    · have hb : (S.toList == [45]) = true := by rw [HSE.out, bs_list, hx]; decide
      have hsne : t.tx ≠ [] := by rw [hx]; decide
      have HO := Lib.hid (fun X (hX : Ext W X) => popens_any (h.ext hX) ho t.tx S hS hsne)
      cases hO : opensP t.tx o (toks.drop a) with
      | bad rr er =>
        rw [hO] at HO
        rw [hO, PR.bind_bad] at hres
        subst hres
        clear h ht hS hx hsne hO
        go_enter Tryz.func87, Tryz.ntmps87
        go_wp2_with (first
        | (have hg := hx2; clear hg; go_at_call 77; refine (HN.out _ (HX0.out.trans hx2)).mono ?_; rintro e w3 ⟨rfl, hx3⟩; have hxa := (HX0.out.trans hx2).trans hx3)
        | (go_at_call 77; refine (HN.out _ HX0.out).mono ?_; rintro e w2 ⟨rfl, hx2⟩)
        | (go_at_call 127; refine (HO.out _ hxa).mono ?_; rintro e w4 ⟨a4, o4, rfl, ha4, hr4, hp4, hm4⟩; have HR4 := Lib.hid hr4; clear hr4))
        exact ⟨rfl, a4, o4, rfl, ha4, HR4.out, hp4, (Mv.of_ext hxa).trans hm4⟩
      | ok u r1 =>
        rw [hO] at HO
        rw [hO, PR.bind_ok] at hres
        have ho11 : o + 1 ≤ 12 := by have := (opens_ok hO).2.1; omega
        have HO1 := Lib.hid (opens_ok hO).1
        cases hA : E 7 (o + 1) r1 with
        | bad rr er =>
          have HA := Lib.hid hA
          rw [hA, PR.bind_bad] at hres
          subst hres
          clear h ht hS hx hsne hO hA
          go_enter Tryz.func87, Tryz.ntmps87
          go_wp2_with (first
          | (have hg := hx2; clear hg; go_at_call 77; refine (HN.out _ (HX0.out.trans hx2)).mono ?_; rintro e w3 ⟨rfl, hx3⟩; have hxa := (HX0.out.trans hx2).trans hx3)
          | (go_at_call 77; refine (HN.out _ HX0.out).mono ?_; rintro e w2 ⟨rfl, hx2⟩)
          | (go_at_call 127; refine (HO.out _ hxa).mono ?_; rintro e w4 ⟨v4, a4, rfl, rfl, ha4, hr4, hp4, hm4⟩; have HR4 := Lib.hid hr4; have HP4 := Lib.hid hp4; clear hr4 hp4)
          | (go_at_call 87; have h9 : Calls Tryz.prog 87 #[.pointer (some ⟨b, 0, none⟩), .int .i64 7] w4 (GP b A N c toks a4 (o + 1) (RT w4.heap.size) w4 (E 7 (o + 1) (toks.drop a4))) := hE w4 b A N c toks a4 (o + 1) 7 HP4.out ho11 (by omega) (by omega) (by have := drop_at (by rw [← HLEN.out]; exact HP4.out.at_) (HO1.out.symm.trans HR4.out); omega); rw [← HR4.out, HA.out] at h9; refine h9.mono ?_; clear h9; rintro e w5 ⟨a5, o5, rfl, ha5, hr5, hp5, hm5⟩; have HR5 := Lib.hid hr5; clear hr5))
          exact ⟨rfl, a5, o5, rfl, by omega, HR5.out, hp5, ((Mv.of_ext hxa).trans hm4).trans hm5⟩
        | ok ta r2 =>
          have HA := Lib.hid hA
          rw [hA, PR.bind_ok] at hres
          subst hres
          clear h ht hS hx hsne hO hA
          go_enter Tryz.func87, Tryz.ntmps87
          go_upto_region 6 with (first
          | (have hg := hx2; clear hg; go_at_call 77; refine (HN.out _ (HX0.out.trans hx2)).mono ?_; rintro e w3 ⟨rfl, hx3⟩; have hxa := (HX0.out.trans hx2).trans hx3)
          | (go_at_call 77; refine (HN.out _ HX0.out).mono ?_; rintro e w2 ⟨rfl, hx2⟩)
          | (go_at_call 127; refine (HO.out _ hxa).mono ?_; rintro e w4 ⟨v4, a4, rfl, rfl, ha4, hr4, hp4, hm4⟩; have HR4 := Lib.hid hr4; have HP4 := Lib.hid hp4; clear hr4 hp4)
          | (go_at_call 87; have h9 : Calls Tryz.prog 87 #[.pointer (some ⟨b, 0, none⟩), .int .i64 7] w4 (GP b A N c toks a4 (o + 1) (RT w4.heap.size) w4 (E 7 (o + 1) (toks.drop a4))) := hE w4 b A N c toks a4 (o + 1) 7 HP4.out ho11 (by omega) (by omega) (by have := drop_at (by rw [← HLEN.out]; exact HP4.out.at_) (HO1.out.symm.trans HR4.out); omega); rw [← HR4.out, HA.out] at h9; refine h9.mono ?_; clear h9; rintro e w5 ⟨v5, a5, rfl, ⟨d, rfl, hrep⟩, ha5, hr5, hp5, hm5⟩; have HR5 := Lib.hid hr5; have HP5 := Lib.hid hp5; have HREP := Lib.hid hrep; clear hr5 hp5 hrep))
          have hbW := HP.out.lt
          have h1s : W.heap.size + 1 ≤ w4.heap.size := by have h1 := (hx2.trans hx3).lt; have h2 := hm4.size; simp at h1; omega
          have h5s := hm5.size
          have hg2 : NX w5 W.heap.size 0 0 ⟨#[]⟩ (.slice none 0 0) := NX.mv (b := b) (show NX (W.alloc (.cells #[.int .i64 0, .int .i64 0, .string ⟨#[]⟩, .slice none 0 0] 31)) W.heap.size 0 0 ⟨#[]⟩ (.slice none 0 0) from heap_alloc_new _ _) (((Mv.of_ext (hx2.trans hx3)).trans hm4).trans hm5) (by omega)
          have hkr := KR.lit (X := w5) (base := W.heap.size + 1) (av := w5.heap.size + 1) [d] [ta] #[.int .i64 d.k, .int .i64 d.n, .string d.s, .slice d.A d.m d.c] rfl rfl (by simp) (fun i e t' h1 h2 => by
            have : i = 0 := by
              have := (List.getElem?_eq_some_iff.1 h1).1
              simpa using this
            subst this
            simp only [List.getElem?_cons_zero, Option.some.injEq] at h1 h2
            subst h1 h2
            exact HREP.out.mono fun k hk hk2 => by omega) (by omega) (by omega)
          obtain ⟨X1, hX1⟩ : ∃ X1, X1 = w5.alloc (.cells #[.int .i64 d.k, .int .i64 d.n, .string d.s, .slice d.A d.m d.c] 31) := ⟨_, rfl⟩
          obtain ⟨X2, hX2⟩ : ∃ X2, X2 = X1.alloc (.cells #[.int .i64 5, .int .i64 0, .string S, .slice (some ⟨w5.heap.size, 0, none⟩) 1 1] 31) := ⟨_, rfl⟩
          rw [← hX1] at hkr ⊢
          have hs1 : X1.heap.size = w5.heap.size + 1 := by rw [hX1]; simp
          have hx51 : Ext w5 X1 := by rw [hX1]; exact (Ext.refl _).alloc _
          have hx12 : Ext X1 X2 := by rw [hX2]; exact (Ext.refl _).alloc _
          have hn6 : NX X2 (w5.heap.size + 1) 5 0 S (.slice (some ⟨w5.heap.size, 0, none⟩) 1 1) := by rw [hX2, ← hs1]; exact heap_alloc_new _ _
          rw [← hX2]
          have hkr2 := hkr.mv (Mv.of_ext hx12 : Mv b _ _) (by omega)
          obtain ⟨A9, c9', e9', hrep9⟩ := hkr2.rep 5 0 t.tx
          simp only [List.length_cons, List.length_nil, Nat.zero_add, Value.slice.injEq] at e9' hrep9
          obtain ⟨rfl, _, rfl⟩ := e9'
          have HREP9 := Lib.hid hrep9
          obtain ⟨_, s0, s1, s2, s3, _, _, _, _⟩ := hn6.nb
          have hm52 : Mv b w5 X2 := Mv.of_ext (hx51.trans hx12)
          obtain ⟨_, j0, j1, j2, j3, jf0, jf1, jf2, jf3⟩ := (hg2.mv hm52 (by omega)).nb
          have HP2 := Lib.hid (HP5.out.ext (hx51.trans hx12))
          have c2 := HP2.out.c2
          have f2 := HP2.out.fz 2
          have hw : IntKind.i64.wrap (((o : Int) + 1) - 1) = (o : Int) := by rw [IntWalk.i64_in _ (by omega)]; omega
          rw [show ((o + 1 : Nat) : Int) = (o : Int) + 1 by omega] at c2
          have hmW := (((Mv.of_ext hxa).trans hm4).trans hm5).trans hm52
          have hb2 : ¬ b = W.heap.size := by omega
          have hb6 : ¬ b = w5.heap.size + 1 := by have := HP5.out.lt; omega
          have h26 : ¬ W.heap.size = w5.heap.size + 1 := by omega
          have HA5 := Lib.hid (show a ≤ a5 by omega)
          clear hX1 hX2 hkr hkr2 hs1 hx51 hx12 hn6 hg2 hrep9 hm52 h5s h1s hx2 hx3 hm4 hm5
          go_wp2
          refine bodyPost_ret (v := .agg #[.int .i64 5, .int .i64 0, .string S, .slice (some ⟨w5.heap.size, 0, none⟩) 1 1]) (by simp [results, Tryz.results87, go_sem, *]) rfl ?_
          exact ⟨_, a5, rfl, ⟨⟨5, 0, bs t.tx, some ⟨w5.heap.size, 0, none⟩, 1, 1⟩, by rw [HSE.out], ((HREP9.out.mono (Q := fun k => W.heap.size + 1 ≤ k) (fun k h1 _ => h1.1)).mv (Mv.set (b := b) (i := 2) (.int .i64 (o : Int))) (fun k h1 e => by omega)).fin (by omega) _ _ _ _⟩, HA5.out, HR5.out, HP.out.fin (HP2.out.set2 o) _ _ _ _, (hmW.trans (Mv.set _)).fin _ _ _ _⟩
  · rw [if_neg hu] at hres
    have HRES := Lib.hid hres
    have hN3 : lv = 3 → (S.toList == [110, 111, 116]) = false := fun e => by rw [HSE.out, bs_list]; exact beq_eq_false_iff_ne.2 (fun h9 => hu (.inl ⟨e, h9⟩))
    have hN7 : lv = 7 → (S.toList == [45]) = false := fun e => by rw [HSE.out, bs_list]; exact beq_eq_false_iff_ne.2 (fun h9 => hu (.inr ⟨e, h9⟩))
    have HN3 := Lib.hid hN3
    have HN7 := Lib.hid hN7
    clear h ht hS hres hu hN3 hN7
    go_enter Tryz.func87, Tryz.ntmps87
    go_upto_region 1 with (fail)
    have hlt : W.heap.size < (W.alloc (.cells #[.int .i64 0, .int .i64 0, .string ⟨#[]⟩, .slice none 0 0] 31)).heap.size := by simp
    have hn2 : NX (W.alloc (.cells #[.int .i64 0, .int .i64 0, .string ⟨#[]⟩, .slice none 0 0] 31)) W.heap.size 0 0 ⟨#[]⟩ (.slice none 0 0) := heap_alloc_new _ _
    have HN2 := Lib.hid hn2
    have HLT := Lib.hid hlt
    clear hn2 hlt
    generalize W.alloc (.cells #[.int .i64 0, .int .i64 0, .string ⟨#[]⟩, .slice none 0 0] 31) = w1 at *
    have hlvI : (lv : Int) ≤ 8 := by omega
    have hlv0 : 0 ≤ (lv : Int) := by omega
    go_cut [9] (fun s9 wx => CutX w1 (.bool false) s9 wx)
    case first =>
      by_cases h3 : lv = 3
      · have e3 : ((lv : Int) == 3) = true := by simp [h3]
        have hb := HN3.out h3
        clear h3
        go_wp2_with (first | (go_at_call 77; refine (HN.out _ HX0.out).mono ?_; rintro e w2 ⟨rfl, hx2⟩))
        go_meet
        case rel => exact ⟨rfl, hx2⟩
      · have e3 : ((lv : Int) == 3) = false := by simpa using (show ¬ (lv : Int) = 3 by omega)
        clear h3
        go_wp2_with fail
        go_meet
        case rel => exact ⟨rfl, Ext.refl _⟩
    case rest =>
      obtain ⟨rfl, hx1⟩ := hcut
      obtain ⟨w2, hw2⟩ : ∃ w2, w2 = wc := ⟨_, rfl⟩
      rw [← hw2] at hx1 ⊢
      clear hw2
      have HX1 := Lib.hid (HX0.out.trans hx1)
      go_upto_region 2 with (fail)
      go_cut [9] (fun s9 wx => CutX w2 (.bool false) s9 wx)
      case first =>
        by_cases h7 : lv = 7
        · have e3 : ((lv : Int) == 7) = true := by simp [h7]
          have hb := HN7.out h7
          clear h7 hx1
          go_wp2_with (first | (go_at_call 77; refine (HN.out _ HX1.out).mono ?_; rintro e w3 ⟨rfl, hx3⟩))
          go_meet
          case rel => exact ⟨rfl, hx3⟩
        · have e3 : ((lv : Int) == 7) = false := by simpa using (show ¬ (lv : Int) = 7 by omega)
          clear h7 hx1
          go_wp2_with fail
          go_meet
          case rel => exact ⟨rfl, Ext.refl _⟩
      case rest =>
        obtain ⟨rfl, hx2⟩ := hcut
        obtain ⟨w3, hw3⟩ : ∃ w3, w3 = wc := ⟨_, rfl⟩
        rw [← hw3] at hx2 ⊢
        clear hw3
        have HX3 := Lib.hid (HX1.out.trans hx2)
        have HN23 := Lib.hid (NX.mv (b := b) HN2.out (Mv.of_ext (hx1.trans hx2)) (by have := HP.out.lt; omega))
        have hres := HRES.out
        clear hx1 hx2 HX1 HX0 HN2 HRES HN3 HN7
        go_upto_region 8 with (fail)
        by_cases h8 : lv = 8
        · rw [if_pos h8] at hres
          have e8 : ((lv : Int) == 8) = true := by simp [h8]
          have HPR := Lib.hid (pprim_any hE (HP.out.ext HX3.out) ho (by omega))
          clear h8
          cases hO : primP E o (toks.drop a) with
          | bad rr er =>
            rw [hO] at HPR
            rw [hO] at hres
            subst hres
            clear hO
            go_wp2_with (first | (go_at_call 128; refine (HPR.out).mono ?_; rintro e w9 ⟨a9, o9, rfl, ha9, hr9, hp9, hm9⟩; have HR9 := Lib.hid hr9; clear hr9))
            exact ⟨rfl, a9, o9, rfl, ha9, HR9.out, hp9, (Mv.of_ext HX3.out).trans hm9⟩
          | ok tt r1 =>
            rw [hO] at HPR
            rw [hO] at hres
            subst hres
            have HS7 := Lib.hid HN23.out.nb.lt
            have HBW := Lib.hid HP.out.lt
            clear hO
            go_wp2_with (first | (go_at_call 128; refine (HPR.out).mono ?_; rintro e w9 ⟨v9, a9, rfl, ⟨d, rfl, hrep⟩, ha9, hr9, hp9, hm9⟩; have HR9 := Lib.hid hr9; have HP9 := Lib.hid hp9; have HREP := Lib.hid hrep; obtain ⟨_, j0, j1, j2, j3, jf0, jf1, jf2, jf3⟩ := (HN23.out.mv hm9 (by have := HBW.out; omega)).nb; clear hr9 hp9 hrep))
            refine bodyPost_ret (v := .agg #[.int .i64 d.k, .int .i64 d.n, .string d.s, .slice d.A d.m d.c]) (by simp [results, Tryz.results87, go_sem, *]) rfl ?_
            have h7s := HS7.out
            exact ⟨_, a9, rfl, ⟨d, rfl, (HREP.out.mono (Q := fun k => W.heap.size + 1 ≤ k) (fun k h1 _ => by omega)).fin (by omega) _ _ _ _⟩, ha9, HR9.out, HP.out.fin HP9.out _ _ _ _, ((Mv.of_ext HX3.out).trans hm9).fin _ _ _ _⟩
        · rw [if_neg h8] at hres
          have e8 : ((lv : Int) == 8) = false := by simpa using (show ¬ (lv : Int) = 8 by omega)
          have hE0 := hE w3 b A N c toks a o (lv + 1) (HP.out.ext HX3.out) ho (by omega) (by omega) (by omega)
          rw [show (((lv + 1 : Nat)) : Int) = (lv : Int) + 1 by omega] at hE0
          have h8' : lv ≤ 7 := by omega
          clear h8
          cases hA : E (lv + 1) o (toks.drop a) with
          | bad rr er =>
            rw [hA] at hE0
            rw [hA, PR.bind_bad] at hres
            subst hres
            have HE0 := Lib.hid hE0
            clear hA hE0
            go_wp2_with (first | (go_at_call 87; refine (HE0.out).mono ?_; rintro e w9 ⟨a9, o9, rfl, ha9, hr9, hp9, hm9⟩; have HR9 := Lib.hid hr9; clear hr9))
            exact ⟨rfl, a9, o9, rfl, ha9, HR9.out, hp9, (Mv.of_ext HX3.out).trans hm9⟩
          | ok ta r2 =>
            rw [hA] at hE0
            rw [hA, PR.bind_ok] at hres
            have HE0 := Lib.hid hE0
            have HRES := Lib.hid hres
            clear hA hE0 hres
            go_wp2_with (first | (go_at_call 87; refine (HE0.out).mono ?_; rintro e w9 ⟨v9, a9, rfl, ⟨d, rfl, hrep⟩, ha9, hr9, hp9, hm9⟩; have HR9 := Lib.hid hr9; have HP9 := Lib.hid hp9; have HREP := Lib.hid hrep; clear hr9 hp9 hrep))
            have hbW := HP.out.lt
            have hx3s := HX3.out.lt
            have hlen9 : N - a9 ≤ r2.length := by rw [HR9.out, List.length_drop, ← HLEN.out]; exact Nat.le_refl _
            have hw3s : W.heap.size + 1 ≤ w3.heap.size := HN23.out.nb.lt
            have hstart : LpRel W b A N c toks a o E lv RES W.heap.size w9.heap.size (w9.alloc (.cells #[.int .i64 d.k, .int .i64 d.n, .string d.s, .slice d.A d.m d.c] 31)) :=
              ⟨a9, r2.length, d, ta, ha9, hlen9, HP9.out.ext ((Ext.refl _).alloc _), heap_alloc_new _ _, ((HREP.out.mono (Q := fun k => W.heap.size + 1 ≤ k ∧ k < w9.heap.size) (fun k h1 h2 => ⟨by omega, h2⟩)).ext ((Ext.refl _).alloc _)).mono (fun k h1 _ => ⟨h1.1, by omega⟩),
                HN23.out.mv (hm9.trans (Mv.of_ext ((Ext.refl _).alloc _))) (by omega), by rw [← HR9.out]; exact HRES.out, ((Mv.of_ext HX3.out).trans hm9).trans (Mv.of_ext ((Ext.refl _).alloc _))⟩
            have HST := Lib.hid hstart
            have hg7 : W.heap.size < w9.heap.size := by have := hm9.size; omega
            have HG7 := Lib.hid hg7
            have HBW := Lib.hid hbW
            have hb7 : ¬ b = w9.heap.size := by omega
            have hb2 : ¬ b = W.heap.size := by omega
            have h27 : ¬ W.heap.size = w9.heap.size := by omega
            clear hstart hlen9 hw3s hx3s hbW HRES HREP HP9 HR9 hm9 HE0 HN23 ha9 hg7 HSE HT HN
            generalize w9.heap.size = g7 at *
            go_loopw [8] (fun _ X => LpRel W b A N c toks a o E lv RES W.heap.size g7 X) (fun _ X => atM N b X)
            case atStart => exact HST.out
            case round =>
              clear HST
              obtain ⟨a', gf, n, tn, haa, hgf, hpb, hnx, hrep, hn2, hres, hmv⟩ := hrel
              have HPB := Lib.hid hpb
              have HNX := Lib.hid hnx
              have HREP := Lib.hid hrep
              have HN2 := Lib.hid hn2
              have HMV := Lib.hid hmv
              obtain ⟨t', ht'⟩ : ∃ t, hd (toks.drop a') = t := ⟨_, rfl⟩
              obtain ⟨S', hS'⟩ : ∃ S, S = bs t'.tx := ⟨_, rfl⟩
              have HN := Lib.hid (fun X (hX : Ext wr X) => pnext_any (hpb.ext hX) S' (by rw [ht']; exact hS'))
              have HLV := Lib.hid (fun X => plevel_any t'.tx S' hS' X)
              have hat := hpb.at_
              obtain ⟨g1, rfl⟩ : ∃ g1, gf = g1 + 1 := ⟨gf - 1, by omega⟩
              rw [loopP, ht', (hd_mem hpb).2.2] at hres
              by_cases hl : lvOf t'.tx = lv
              · rw [if_pos hl] at hres
                rw [hl] at HLV
                have hne : t'.tx ≠ [] := fun e => by rw [e, lvOf_nil] at hl; omega
                have hgo : a' + 1 < N := hpb.go (hpb.txne (s := t'.tx) (by rw [ht']) hne)
                have HSE := Lib.hid hS'
                have hE5 : ∀ X, PB X b A N c toks (a' + 1) o → Calls Tryz.prog 87 #[.pointer (some ⟨b, 0, none⟩), .int .i64 ((lv : Int) + 1)] X (GP b A N c toks (a' + 1) o (RT X.heap.size) X (E (lv + 1) o (toks.drop (a' + 1)))) := fun X hX => by
                  have := hE X b A N c toks (a' + 1) o (lv + 1) hX ho (by omega) (by omega) (by omega)
                  rwa [show (((lv + 1 : Nat)) : Int) = (lv : Int) + 1 by omega] at this
                have HE5 := Lib.hid hE5
                have haJ : (a' : Int) ≤ 100000 := by have := hpb.nb; omega
                clear hpb hnx hrep hn2 hmv ht' hS' hl hne hE5
                cases hB : E (lv + 1) o (toks.drop (a' + 1)) with
                | bad rr er =>
                  rw [hB, PR.bind_bad] at hres
                  subst hres
                  have hE6 := HE5.out
                  rw [hB] at hE6
                  have HE6 := Lib.hid hE6
                  clear hB hE6
                  go_upto_region 13 with (first
                    | (have hg := hx6; clear hg; go_at_call 77; refine (HN.out _ (hx5.trans hx6)).mono ?_; rintro e w7 ⟨rfl, hx7⟩)
                    | (go_at_call 77; refine (HN.out _ (Ext.refl _)).mono ?_; rintro e w5 ⟨rfl, hx5⟩)
                    | (go_at_call 106; refine (HLV.out _).mono ?_; rintro e w6 ⟨rfl, hx6⟩))
                  have hx := (hx5.trans hx6).trans hx7
                  have c1 := (HPB.out.ext hx).c1
                  have f1 := (HPB.out.ext hx).fz 1
                  have hp8 := (HPB.out.ext hx).set1 (a' + 1) hgo
                  rw [show (((a' + 1 : Nat) : Int)) = (a' : Int) + 1 by omega] at hp8
                  have hm8 := (Mv.of_ext (b := b) hx).trans (Mv.set (b := b) (i := 1) (.int .i64 ((a' : Int) + 1)))
                  have HP8 := Lib.hid hp8
                  have HM8 := Lib.hid hm8
                  clear hx hx5 hx6 hx7 hp8 hm8
                  go_upto_region 14 with (fail)
                  clear c1 f1
                  generalize w7.setCell ⟨b, 1, none⟩ (.int .i64 ((a' : Int) + 1)) = w8 at *
                  have HNX8 := Lib.hid (HNX.out.mv HM8.out (fun e => hb7 e.symm))
                  have HE8 := Lib.hid (HE6.out w8.drew (HP8.out.ext (Ext.refl _).drew))
                  obtain ⟨_, x0, x1, x2, x3, _, _, _, _⟩ := HNX8.out.nb
                  have hw : IntKind.i64.wrap ((lv : Int) + 1) = (lv : Int) + 1 := IntWalk.i64_in _ (by omega)
                  refine wp_region_E (fun _ => True) (fun X => X.cell? ⟨g7, 0, none⟩ = some (.int .i64 n.k) ∧ X.cell? ⟨g7, 1, none⟩ = some (.int .i64 n.n) ∧ X.cell? ⟨g7, 2, none⟩ = some (.string n.s) ∧ X.cell? ⟨g7, 3, none⟩ = some (.slice n.A n.m n.c)) (fun _ => true) (by kernel_rfl) ?_
                  have hT0 : (fun X : World => X.cell? ⟨g7, 0, none⟩ = some (.int .i64 n.k) ∧ X.cell? ⟨g7, 1, none⟩ = some (.int .i64 n.n) ∧ X.cell? ⟨g7, 2, none⟩ = some (.string n.s) ∧ X.cell? ⟨g7, 3, none⟩ = some (.slice n.A n.m n.c)) w8.drew := ⟨x0, x1, x2, x3⟩
                  clear x0 x1 x2 x3
                  refine wpE_takeT (i := 0) (d := some 66) (v := .string S') rfl rfl (by kernel_rfl) (by kernel_rfl) (by kernel_rfl) rfl (fun _ _ _ h => h) (by rfl) ?hy0 hT0 ?go0
                  case hy0 =>
                    intro w9 hT9
                    obtain ⟨y0, y1, y2, y3⟩ := hT9
                    go_simp
                  (try simp only [Act.put, List.setIfInBounds_toArray, List.set_cons_zero, List.set_cons_succ])
                  refine wpE_takeT (i := 1) (d := some 67) (v := .agg #[.int .i64 n.k, .int .i64 n.n, .string n.s, .slice n.A n.m n.c]) rfl rfl (by kernel_rfl) (by kernel_rfl) (by kernel_rfl) rfl (fun _ _ _ h => h) (by rfl) ?hy1 hT0 ?go1
                  case hy1 =>
                    intro w9 hT9
                    obtain ⟨y0, y1, y2, y3⟩ := hT9
                    go_simp
                  (try simp only [Act.put, List.setIfInBounds_toArray, List.set_cons_zero, List.set_cons_succ])
                  refine wpE_takeT (i := 2) (d := some 68) (v := .pointer (some ⟨b, 0, none⟩)) rfl rfl (by kernel_rfl) (by kernel_rfl) (by kernel_rfl) rfl (fun _ _ _ h => h) (by rfl) ?hy2 hT0 ?go2
                  case hy2 =>
                    intro w9 hT9
                    obtain ⟨y0, y1, y2, y3⟩ := hT9
                    go_simp
                  (try simp only [Act.put, List.setIfInBounds_toArray, List.set_cons_zero, List.set_cons_succ])
                  refine wpE_takeT (i := 3) (d := some 69) (v := .int .i64 (lv : Int)) rfl rfl (by kernel_rfl) (by kernel_rfl) (by kernel_rfl) rfl (fun _ _ _ h => h) (by rfl) ?hy3 hT0 ?go3
                  case hy3 =>
                    intro w9 hT9
                    obtain ⟨y0, y1, y2, y3⟩ := hT9
                    go_simp
                  (try simp only [Act.put, List.setIfInBounds_toArray, List.set_cons_zero, List.set_cons_succ])
                  refine wpE_takeT (i := 4) (d := some 70) (v := .int .i64 ((lv : Int) + 1)) rfl rfl (by kernel_rfl) (by kernel_rfl) (by kernel_rfl) rfl (fun _ _ _ h => h) (by rfl) ?hy4 hT0 ?go4
                  case hy4 =>
                    intro w9 hT9
                    obtain ⟨y0, y1, y2, y3⟩ := hT9
                    go_simp
                  (try simp only [Act.put, List.setIfInBounds_toArray, List.set_cons_zero, List.set_cons_succ])
                  refine wpE_all (rs := [5]) (by kernel_rfl) (by simp) ?_
                  refine AllE.cons rfl (fun K hK => ?_) AllE.nil
                  simp only [List.getElem_toArray, List.getElem_cons_succ, List.getElem_cons_zero]
                  go_simp
                  go_at_call 87
                  refine (HE8.out).mono ?_
                  rintro e w6 ⟨a6, o6, rfl, ha6, hr6, hp6, hm6⟩
                  simp only []
                  exact ⟨rfl, a6, o6, rfl, by omega, hr6, hp6, (HMV.out.trans HM8.out).trans ((Mv.of_ext (Ext.refl _).drew).trans hm6)⟩
                | ok tb r3 =>
                  rw [hB, PR.bind_ok] at hres
                  have hE6 := HE5.out
                  rw [hB] at hE6
                  have HE6 := Lib.hid hE6
                  have HRES := Lib.hid hres
                  clear hB hE6 hres
                  go_upto_region 13 with (first
                    | (have hg := hx6; clear hg; go_at_call 77; refine (HN.out _ (hx5.trans hx6)).mono ?_; rintro e w7 ⟨rfl, hx7⟩)
                    | (go_at_call 77; refine (HN.out _ (Ext.refl _)).mono ?_; rintro e w5 ⟨rfl, hx5⟩)
                    | (go_at_call 106; refine (HLV.out _).mono ?_; rintro e w6 ⟨rfl, hx6⟩))
                  have hx := (hx5.trans hx6).trans hx7
                  have c1 := (HPB.out.ext hx).c1
                  have f1 := (HPB.out.ext hx).fz 1
                  have hp8 := (HPB.out.ext hx).set1 (a' + 1) hgo
                  rw [show (((a' + 1 : Nat) : Int)) = (a' : Int) + 1 by omega] at hp8
                  have hm8 := (Mv.of_ext (b := b) hx).trans (Mv.set (b := b) (i := 1) (.int .i64 ((a' : Int) + 1)))
                  have HP8 := Lib.hid hp8
                  have HM8 := Lib.hid hm8
                  clear hx hx5 hx6 hx7 hp8 hm8
                  go_upto_region 14 with (fail)
                  clear c1 f1
                  generalize w7.setCell ⟨b, 1, none⟩ (.int .i64 ((a' : Int) + 1)) = w8 at *
                  have HNX8 := Lib.hid (HNX.out.mv HM8.out (fun e => hb7 e.symm))
                  have HE8 := Lib.hid (HE6.out w8.drew (HP8.out.ext (Ext.refl _).drew))
                  obtain ⟨_, x0, x1, x2, x3, _, _, _, _⟩ := HNX8.out.nb
                  have hw : IntKind.i64.wrap ((lv : Int) + 1) = (lv : Int) + 1 := IntWalk.i64_in _ (by omega)
                  go_cut [66] (fun _ wx => CutN W b A N c toks a' o W.heap.size g7 S' tn tb r3 wx)
                  case first =>
                    have hg78 : g7 < w8.heap.size := HNX8.out.nb.lt
                    go_region_law (first
                      | (go_simp; go_at_call 87; refine (HE8.out).mono ?_; rintro e w6 ⟨v2, a6, rfl, ⟨d2, rfl, hrep⟩, ha6, hr6, hp6, hm6⟩; have hm86 : Mv b w8 w6 := (Mv.of_ext (Ext.refl _).drew).trans hm6; have HNX6 := Lib.hid (HNX8.out.mv hm86 (fun e => hb7 e.symm)); obtain ⟨_, u0, u1, u2, u3, uf0, uf1, uf2, uf3⟩ := HNX6.out.nb; obtain ⟨_, t0, t1, t2, t3, tf0, tf1, tf2, tf3⟩ := (NX.mv (b := b) HNX6.out (Mv.of_ext ((Ext.refl _).alloc (.cells #[.int .i64 n.k, .int .i64 n.n, .string n.s, .slice n.A n.m n.c, .int .i64 d2.k, .int .i64 d2.n, .string d2.s, .slice d2.A d2.m d2.c] 31))) (fun e => hb7 e.symm)).nb; have HR6 := Lib.hid hr6; have HP6 := Lib.hid hp6; have HREP6 := Lib.hid hrep; clear hr6 hp6 hrep; simp only []))
                    all_goals
                      go_wp2
                      go_meet
                      case rel =>
                        have hmW := (HMV.out.trans HM8.out).trans hm86
                        have hg7W : W.heap.size ≤ g7 := Nat.le_of_lt HG7.out
                        have hW8 : W.heap.size + 1 ≤ w8.heap.size := by have := HG7.out; omega
                        have hgb : g7 ≠ b := fun e => hb7 e.symm
                        have hx1 : Ext (fin4 w6 g7 (.int .i64 6) (.int .i64 0) (.string S') (.slice (some ⟨w6.heap.size, 0, none⟩) 2 2)) ((fin4 w6 g7 (.int .i64 6) (.int .i64 0) (.string S') (.slice (some ⟨w6.heap.size, 0, none⟩) 2 2)).alloc (.cells #[.int .i64 n.k, .int .i64 n.n, .string n.s, .slice n.A n.m n.c, .int .i64 d2.k, .int .i64 d2.n, .string d2.s, .slice d2.A d2.m d2.c] 31)) := (Ext.refl _).alloc _
                        have hf : ∀ k, k ≠ g7 → (fin4 w6 g7 (.int .i64 6) (.int .i64 0) (.string S') (.slice (some ⟨w6.heap.size, 0, none⟩) 2 2)).heap[k]? = w6.heap[k]? := fun k hk => fin4_other _ _ _ _ _ _ _ hk
                        have hs : (fin4 w6 g7 (.int .i64 6) (.int .i64 0) (.string S') (.slice (some ⟨w6.heap.size, 0, none⟩) 2 2)).heap.size = w6.heap.size := fin4_size _ _ _ _ _ _
                        have hr1 : Rep (fin4 w6 g7 (.int .i64 6) (.int .i64 0) (.string S') (.slice (some ⟨w6.heap.size, 0, none⟩) 2 2)) (fun k => W.heap.size + 1 ≤ k ∧ k ≠ g7) n tn := (HREP.out.mv (HM8.out.trans hm86) (fun k h1 e => by have := HBW.out; have := h1.1; omega)).keep (by omega) (fun k h1 _ => hf k h1.2)
                        have hr2 : Rep (fin4 w6 g7 (.int .i64 6) (.int .i64 0) (.string S') (.slice (some ⟨w6.heap.size, 0, none⟩) 2 2)) (fun k => W.heap.size + 1 ≤ k ∧ k ≠ g7) d2 tb := (HREP6.out.mono (Q := fun k => W.heap.size + 1 ≤ k ∧ k ≠ g7) (fun k h1 _ => by have h1' : w8.heap.size ≤ k := h1; omega)).keep (by omega) (fun k h1 _ => hf k h1.2)
                        have hkr := KR.lit (X := fin4 w6 g7 (.int .i64 6) (.int .i64 0) (.string S') (.slice (some ⟨w6.heap.size, 0, none⟩) 2 2)) (base := W.heap.size + 1) (av := g7) [n, d2] [tn, tb] #[.int .i64 n.k, .int .i64 n.n, .string n.s, .slice n.A n.m n.c, .int .i64 d2.k, .int .i64 d2.n, .string d2.s, .slice d2.A d2.m d2.c] rfl rfl (by simp) (fun i e t9 h1 h2 => by
                          have hi : i < 2 := by have := (List.getElem?_eq_some_iff.1 h1).1; simpa using this
                          obtain rfl | rfl : i = 0 ∨ i = 1 := by omega
                          · simp only [List.getElem?_cons_zero, Option.some.injEq] at h1 h2
                            subst h1 h2; exact hr1
                          · simp only [List.getElem?_cons_succ, List.getElem?_cons_zero, Option.some.injEq] at h1 h2
                            subst h1 h2; exact hr2) (by have := hm86.size; omega) (by have := hm86.size; omega)
                        rw [hs] at hkr
                        exact ⟨a6, w6.heap.size, n, d2, by omega, HR6.out, (HP6.out.keep W.heap.size HP.out.lt HP.out.lts (fun k hk => hf k (by omega))).ext hx1, (NX.fin HNX6.out).mv (Mv.of_ext hx1) hgb, hkr,
                          NX.mv (b := b) ((hf _ (by omega)).trans (HN2.out.mv (HM8.out.trans hm86) (fun e => hb2 e.symm))) (Mv.of_ext hx1) (fun e => hb2 e.symm), (hmW.finG hg7W _ _ _ _).trans (Mv.of_ext hx1)⟩
                  case rest =>
                    obtain ⟨a6, g9, n6, d6, ha6, hr3, hp6, hnx6, hkr6, hn26, hm6⟩ := hcut
                    have HR3 := Lib.hid hr3
                    have HP6 := Lib.hid hp6
                    have HNX6 := Lib.hid hnx6
                    have HKR6 := Lib.hid hkr6
                    have HN26 := Lib.hid hn26
                    have HM6 := Lib.hid hm6
                    obtain ⟨t6, ht6⟩ : ∃ t, hd (toks.drop a6) = t := ⟨_, rfl⟩
                    obtain ⟨S6, hS6⟩ : ∃ S, S = bs t6.tx := ⟨_, rfl⟩
                    have HNN := Lib.hid (fun X (hX : Ext wc X) => pnext_any (hp6.ext hX) S6 (by rw [ht6]; exact hS6))
                    have HWU := Lib.hid (fun X (hX : Ext wc X) (v : Bool) (hv : v = decide (t6.tx ≠ [] ∧ t6.tx ∈ units)) L (hL : L = bs (Jw units)) => pin_any (hp6.ext hX) S6 (by rw [ht6]; exact hS6) units wl_units v (by rw [ht6]; exact hv) L hL jw_units)
                    have htl6 := (hd_mem hp6).2.2
                    have hres := HRES.out
                    have hJ : joinP lv t'.tx tn tb r3 = if lv = 5 ∧ t6.tx ∈ units then (.nd (if t'.tx = wMinus then 8 else 7) 0 t6.tx [tn, tb], toks.drop (a6 + 1)) else (.nd 6 0 t'.tx [tn, tb], toks.drop a6) := by
                      unfold joinP; rw [hr3, ht6, htl6]
                    rw [hJ] at hres
                    have hat6 := hp6.at_
                    have HBW6 := HBW
                    obtain ⟨A0, c0', e0', hrep0⟩ := hkr6.rep 6 0 t'.tx
                    simp only [List.length_cons, List.length_nil, Nat.zero_add, Nat.reduceAdd, Value.slice.injEq] at e0' hrep0
                    obtain ⟨rfl, _, rfl⟩ := e0'
                    have HREP0 := Lib.hid hrep0
                    clear hr3 hp6 hnx6 hkr6 hn26 hm6 hJ hrep0 HRES
                    by_cases h5 : lv = 5
                    · have e5 : ((lv : Int) == 5) = true := by simp [h5]
                      have e4 : ((lv : Int) == 4) = false := by simpa using (show ¬ (lv : Int) = 4 by omega)
                      have h4n : ¬ lv = 4 := by omega
                      by_cases hu : t6.tx ∈ units
                      · have hne6 : t6.tx ≠ [] := fun e => by rw [e] at hu; revert hu; decide
                        have HW := Lib.hid (fun X (hX : Ext wc X) L hL => HWU.out X hX true (decide_eq_true ⟨hne6, hu⟩).symm L hL)
                        have hgo6 : a6 + 1 < N := HP6.out.go (HP6.out.txne (s := t6.tx) (by rw [ht6]) hne6)
                        have haK : (a6 : Int) ≤ 100000 := by have := HP6.out.nb; omega
                        rw [if_pos (c := lv = 5 ∧ t6.tx ∈ units) ⟨h5, hu⟩] at hres
                        dsimp only at hres
                        rw [if_neg h4n] at hres
                        have HS6 := Lib.hid hS6
                        clear ht6 hS6 htl6 h5 h4n hu hne6
                        by_cases hmi : t'.tx = wMinus
                        · rw [if_pos hmi] at hres
                          have em : (S'.toList == [45]) = true := by rw [HSE.out, bs_list]; rw [hmi]; decide
                          have HRES := Lib.hid hres
                          clear hres hmi
                          go_wp2_with (first
                            | (have hg := hx6; clear hg; go_at_call 77; refine (HNN.out _ hx6).mono ?_; rintro e w7 ⟨rfl, hx67⟩; have hx7 := hx6.trans hx67; obtain ⟨_, s0, s1, s2, s3, sf0, sf1, sf2, sf3⟩ := (NX.mv (b := b) HNX6.out (Mv.of_ext hx7) (fun e => hb7 e.symm)).nb; have l1 := (HP6.out.ext hx7).c1; have lf1 := (HP6.out.ext hx7).fz 1; have HX7 := Lib.hid hx7; clear hx7 hx67)
                            | (go_at_call 77; refine (HNN.out _ (Ext.refl _)).mono ?_; rintro e w5 ⟨rfl, hx5⟩)
                            | (go_at_call 118; refine (HW.out _ hx5 _ (by kernel_rfl)).mono ?_; rintro e w6 ⟨rfl, hx56⟩; have hx6 := hx5.trans hx56; clear hx56))
                          have hg7W : W.heap.size ≤ g7 := Nat.le_of_lt HG7.out
                          have hgb : g7 ≠ b := fun e => hb7 e.symm
                          have hn7 := NX.mv (b := b) HNX6.out (Mv.of_ext HX7.out) hgb
                          have hnY : NX ((((w7.setCell ⟨g7, 0, none⟩ (.int .i64 7)).setCell ⟨g7, 2, none⟩ (.string S6)).setCell ⟨g7, 0, none⟩ (.int .i64 8)).setCell ⟨b, 1, none⟩ (.int .i64 ((a6 : Int) + 1))) g7 8 0 S6 (.slice (some ⟨g9, 0, none⟩) 2 2) := (heap_setCell_other _ ⟨b, 1, none⟩ g7 _ hgb).trans ((heap_setCell_same _ g7 0 _ 31 _ (heap_setCell_same _ g7 2 _ 31 _ (heap_setCell_same w7 g7 0 _ 31 _ hn7))).trans rfl)
                          have hoth : ∀ k, k ≠ g7 → k ≠ b → ((((w7.setCell ⟨g7, 0, none⟩ (.int .i64 7)).setCell ⟨g7, 2, none⟩ (.string S6)).setCell ⟨g7, 0, none⟩ (.int .i64 8)).setCell ⟨b, 1, none⟩ (.int .i64 ((a6 : Int) + 1))).heap[k]? = w7.heap[k]? := fun k h1 h2 => by rw [heap_setCell_other _ ⟨b, 1, none⟩ k _ h2, heap_setCell_other _ ⟨g7, 0, none⟩ k _ h1, heap_setCell_other _ ⟨g7, 2, none⟩ k _ h1, heap_setCell_other _ ⟨g7, 0, none⟩ k _ h1]
                          have hpY := (HP.out.setNew (HP.out.setNew (HP.out.setNew (HP6.out.ext HX7.out) (p := ⟨g7, 0, none⟩) hg7W (.int .i64 7)) (p := ⟨g7, 2, none⟩) hg7W (.string S6)) (p := ⟨g7, 0, none⟩) hg7W (.int .i64 8)).set1 (a6 + 1) hgo6
                          rw [show (((a6 + 1 : Nat) : Int)) = (a6 : Int) + 1 by omega] at hpY
                          obtain ⟨A9, c9', e9', hrep9⟩ := HKR6.out.rep 8 0 t6.tx
                          simp only [List.length_cons, List.length_nil, Nat.zero_add, Nat.reduceAdd, Value.slice.injEq] at e9' hrep9
                          obtain ⟨rfl, _, rfl⟩ := e9'
                          have hrep9 : Rep wc (fun k => W.heap.size + 1 ≤ k ∧ k ≠ g7) ⟨8, 0, S6, some ⟨g9, 0, none⟩, 2, 2⟩ (.nd 8 0 t6.tx [tn, tb]) := by rw [HS6.out]; exact hrep9
                          exact ⟨⟨a6 + 1, g1, ⟨8, 0, S6, some ⟨g9, 0, none⟩, 2, 2⟩, _, by omega, by omega, hpY, hnY, (hrep9.ext HX7.out).keep (by simp) (fun k h1 _ => hoth k h1.2 (fun e => by have := HBW6.out; have := h1.1; omega)),
                            (hoth W.heap.size (by omega) (fun e => hb2 e.symm)).trans (NX.mv (b := b) HN26.out (Mv.of_ext HX7.out) (fun e => hb2 e.symm)), HRES.out, ((((HM6.out.trans (Mv.of_ext HX7.out)).setNew (p := ⟨g7, 0, none⟩) hg7W (.int .i64 7)).setNew (p := ⟨g7, 2, none⟩) hg7W (.string S6)).setNew (p := ⟨g7, 0, none⟩) hg7W (.int .i64 8)).trans (Mv.set _)⟩, by rw [hpY.meas, HPB.out.meas]; omega⟩
                        · rw [if_neg hmi] at hres
                          have em : (S'.toList == [45]) = false := by rw [HSE.out, bs_list]; exact beq_eq_false_iff_ne.2 hmi
                          have HRES := Lib.hid hres
                          clear hres hmi
                          go_wp2_with (first
                            | (have hg := hx6; clear hg; go_at_call 77; refine (HNN.out _ hx6).mono ?_; rintro e w7 ⟨rfl, hx67⟩; have hx7 := hx6.trans hx67; obtain ⟨_, s0, s1, s2, s3, sf0, sf1, sf2, sf3⟩ := (NX.mv (b := b) HNX6.out (Mv.of_ext hx7) (fun e => hb7 e.symm)).nb; have l1 := (HP6.out.ext hx7).c1; have lf1 := (HP6.out.ext hx7).fz 1; have HX7 := Lib.hid hx7; clear hx7 hx67)
                            | (go_at_call 77; refine (HNN.out _ (Ext.refl _)).mono ?_; rintro e w5 ⟨rfl, hx5⟩)
                            | (go_at_call 118; refine (HW.out _ hx5 _ (by kernel_rfl)).mono ?_; rintro e w6 ⟨rfl, hx56⟩; have hx6 := hx5.trans hx56; clear hx56))
                          have hg7W : W.heap.size ≤ g7 := Nat.le_of_lt HG7.out
                          have hgb : g7 ≠ b := fun e => hb7 e.symm
                          have hn7 := NX.mv (b := b) HNX6.out (Mv.of_ext HX7.out) hgb
                          have hnY : NX (((w7.setCell ⟨g7, 0, none⟩ (.int .i64 7)).setCell ⟨g7, 2, none⟩ (.string S6)).setCell ⟨b, 1, none⟩ (.int .i64 ((a6 : Int) + 1))) g7 7 0 S6 (.slice (some ⟨g9, 0, none⟩) 2 2) := (heap_setCell_other _ ⟨b, 1, none⟩ g7 _ hgb).trans ((heap_setCell_same _ g7 2 _ 31 _ (heap_setCell_same w7 g7 0 _ 31 _ hn7)).trans rfl)
                          have hoth : ∀ k, k ≠ g7 → k ≠ b → (((w7.setCell ⟨g7, 0, none⟩ (.int .i64 7)).setCell ⟨g7, 2, none⟩ (.string S6)).setCell ⟨b, 1, none⟩ (.int .i64 ((a6 : Int) + 1))).heap[k]? = w7.heap[k]? := fun k h1 h2 => by rw [heap_setCell_other _ ⟨b, 1, none⟩ k _ h2, heap_setCell_other _ ⟨g7, 2, none⟩ k _ h1, heap_setCell_other _ ⟨g7, 0, none⟩ k _ h1]
                          have hpY := (HP.out.setNew (HP.out.setNew (HP6.out.ext HX7.out) (p := ⟨g7, 0, none⟩) hg7W (.int .i64 7)) (p := ⟨g7, 2, none⟩) hg7W (.string S6)).set1 (a6 + 1) hgo6
                          rw [show (((a6 + 1 : Nat) : Int)) = (a6 : Int) + 1 by omega] at hpY
                          obtain ⟨A9, c9', e9', hrep9⟩ := HKR6.out.rep 7 0 t6.tx
                          simp only [List.length_cons, List.length_nil, Nat.zero_add, Nat.reduceAdd, Value.slice.injEq] at e9' hrep9
                          obtain ⟨rfl, _, rfl⟩ := e9'
                          have hrep9 : Rep wc (fun k => W.heap.size + 1 ≤ k ∧ k ≠ g7) ⟨7, 0, S6, some ⟨g9, 0, none⟩, 2, 2⟩ (.nd 7 0 t6.tx [tn, tb]) := by rw [HS6.out]; exact hrep9
                          exact ⟨⟨a6 + 1, g1, ⟨7, 0, S6, some ⟨g9, 0, none⟩, 2, 2⟩, _, by omega, by omega, hpY, hnY, (hrep9.ext HX7.out).keep (by simp) (fun k h1 _ => hoth k h1.2 (fun e => by have := HBW6.out; have := h1.1; omega)),
                            (hoth W.heap.size (by omega) (fun e => hb2 e.symm)).trans (NX.mv (b := b) HN26.out (Mv.of_ext HX7.out) (fun e => hb2 e.symm)), HRES.out, (((HM6.out.trans (Mv.of_ext HX7.out)).setNew (p := ⟨g7, 0, none⟩) hg7W (.int .i64 7)).setNew (p := ⟨g7, 2, none⟩) hg7W (.string S6)).trans (Mv.set _)⟩, by rw [hpY.meas, HPB.out.meas]; omega⟩
                      · have HW := Lib.hid (fun X (hX : Ext wc X) L hL => HWU.out X hX false (decide_eq_false (fun h9 => hu h9.2)).symm L hL)
                        rw [if_neg (c := lv = 5 ∧ t6.tx ∈ units) (fun h => hu h.2)] at hres
                        dsimp only at hres
                        rw [if_neg h4n] at hres
                        have HRES := Lib.hid hres
                        clear ht6 hS6 htl6 h5 h4n hu hres
                        go_wp2_with (first
                          | (go_at_call 77; refine (HNN.out _ (Ext.refl _)).mono ?_; rintro e w5 ⟨rfl, hx5⟩)
                          | (go_at_call 118; refine (HW.out _ hx5 _ (by kernel_rfl)).mono ?_; rintro e w6 ⟨rfl, hx56⟩))
                        have hx6 := hx5.trans hx56
                        have hmx : Mv b wc w6 := Mv.of_ext hx6
                        exact ⟨⟨a6, g1, ⟨6, 0, S', some ⟨g9, 0, none⟩, 2, 2⟩, _, by omega, by omega, HP6.out.ext hx6, HNX6.out.mv hmx (fun e => hb7 e.symm), by rw [HSE.out]; exact HREP0.out.ext hx6, HN26.out.mv hmx (fun e => hb2 e.symm), HRES.out, HM6.out.trans hmx⟩, by rw [(HP6.out.ext hx6).meas, HPB.out.meas]; omega⟩
                    · rw [if_neg (c := lv = 5 ∧ t6.tx ∈ units) (fun h => h5 h.1)] at hres
                      have e5 : ((lv : Int) == 5) = false := by simpa using (show ¬ (lv : Int) = 5 by omega)
                      dsimp only at hres
                      clear ht6 hS6 htl6 h5
                      by_cases h4 : lv = 4
                      · rw [if_pos h4] at hres
                        have e4 : ((lv : Int) == 4) = true := by simp [h4]
                        subst hres
                        clear h4
                        obtain ⟨_, j0, j1, j2, j3, jf0, jf1, jf2, jf3⟩ := HN26.out.nb
                        obtain ⟨_, s0, s1, s2, s3, _, _, _, _⟩ := HNX6.out.nb
                        go_wp2
                        refine bodyPost_ret (v := .agg #[.int .i64 6, .int .i64 0, .string S', .slice (some ⟨g9, 0, none⟩) 2 2]) (by simp [results, Tryz.results87, go_sem, *]) rfl ?_
                        exact ⟨_, a6, rfl, ⟨⟨6, 0, bs t'.tx, some ⟨g9, 0, none⟩, 2, 2⟩, by rw [HSE.out], (HREP0.out.mono (Q := fun k => W.heap.size + 1 ≤ k) (fun k h1 _ => h1.1)).fin (by omega) _ _ _ _⟩, by omega, rfl, HP.out.fin HP6.out _ _ _ _, HM6.out.fin _ _ _ _⟩
                      · rw [if_neg h4] at hres
                        have e4 : ((lv : Int) == 4) = false := by simpa using (show ¬ (lv : Int) = 4 by omega)
                        have HRES := Lib.hid hres
                        clear h4 hres
                        go_wp2
                        exact ⟨⟨a6, g1, ⟨6, 0, S', some ⟨g9, 0, none⟩, 2, 2⟩, _, by omega, by omega, HP6.out, HNX6.out, by rw [HSE.out]; exact HREP0.out, HN26.out, HRES.out, HM6.out⟩, by rw [HP6.out.meas, HPB.out.meas]; omega⟩
              · rw [if_neg hl] at hres
                have hl2 : ((lvOf t'.tx : Int) == (lv : Int)) = false := by simpa using (show ¬ (lvOf t'.tx : Int) = (lv : Int) by omega)
                subst hres
                clear hpb hnx hrep hn2 hmv ht' hS' hl
                go_upto_region 21 with (first
                  | (go_at_call 77; refine (HN.out _ (Ext.refl _)).mono ?_; rintro e w5 ⟨rfl, hx5⟩)
                  | (go_at_call 106; refine (HLV.out _).mono ?_; rintro e w6 ⟨rfl, hx6⟩))
                have HX6 := Lib.hid (hx5.trans hx6)
                have HP6 := Lib.hid (HPB.out.ext (hx5.trans hx6))
                have hm6 : Mv b wr w6 := Mv.of_ext (hx5.trans hx6)
                obtain ⟨_, j0, j1, j2, j3, jf0, jf1, jf2, jf3⟩ := (HN2.out.mv hm6 (fun e => hb2 e.symm)).nb
                obtain ⟨_, s0, s1, s2, s3, _, _, _, _⟩ := (HNX.out.mv hm6 (fun e => hb7 e.symm)).nb
                clear hx5 hx6
                go_wp2
                refine bodyPost_ret (v := .agg #[.int .i64 n.k, .int .i64 n.n, .string n.s, .slice n.A n.m n.c]) (by simp [results, Tryz.results87, go_sem, *]) rfl ?_
                exact ⟨_, a', rfl, ⟨n, rfl, (((HREP.out.mono (Q := fun k => W.heap.size + 1 ≤ k) (fun k h1 _ => h1.1)).ext HX6.out)).fin (by omega) _ _ _ _⟩, haa, rfl, HP.out.fin HP6.out _ _ _ _, (HMV.out.trans hm6).fin _ _ _ _⟩
/-- The contract of expr: at enough fuel. -/
theorem pexpr_any : ∀ f, EC (exprP f) f
  | 0 => fun _ _ _ _ _ _ _ _ _ _ _ _ _ h => absurd h (by omega)
  | f + 1 => pexpr_step (pexpr_any f)
end Go.Proofs.YtnpenepdechkjaaGreatDoor

/- The production's whole. -/
namespace Go.Proofs.YtnpenepdechkjaaGreatDoor
open Go Go.RowKit

set_option maxRecDepth 100000 in
theorem pwhole_any (f : Nat) {W : World} {b : Nat} {A : Option Addr} {N c : Nat} {toks : List Tk} {a o : Nat} (h : PB W b A N c toks a o) (ho : o ≤ 12) (hf : 9 * (N - a) + 7 < f) :
    Calls Tryz.prog 40 #[.pointer (some ⟨b, 0, none⟩)] W (GP b A N c toks a o (RT W.heap.size) W (exprP f 1 o (toks.drop a))) := by
  have HE := Lib.hid (show Calls Tryz.prog 87 #[.pointer (some ⟨b, 0, none⟩), .int .i64 1] (W.alloc (.cells #[.int .i64 0, .int .i64 0, .string ⟨#[]⟩, .slice none 0 0] 31)) (GP b A N c toks a o (RT (W.alloc (.cells #[.int .i64 0, .int .i64 0, .string ⟨#[]⟩, .slice none 0 0] 31)).heap.size) (W.alloc (.cells #[.int .i64 0, .int .i64 0, .string ⟨#[]⟩, .slice none 0 0] 31)) (exprP f 1 o (toks.drop a))) from pexpr_any f _ b A N c toks a o 1 (h.ext ((Ext.refl W).alloc _)) ho (by omega) (by omega) (by omega))
  have HP := Lib.hid h
  have hn2 : NX (W.alloc (.cells #[.int .i64 0, .int .i64 0, .string ⟨#[]⟩, .slice none 0 0] 31)) W.heap.size 0 0 ⟨#[]⟩ (.slice none 0 0) := heap_alloc_new _ _
  have HN2 := Lib.hid hn2
  cases hA : exprP f 1 o (toks.drop a) with
  | bad r er =>
    rw [hA] at HE
    clear h hn2 hA hf
    go_enter Tryz.func40, Tryz.ntmps40
    go_wp2_with (first | (go_at_call 87; refine (HE.out).mono ?_; rintro e w9 ⟨a9, o9, rfl, ha9, hr9, hp9, hm9⟩; have HR9 := Lib.hid hr9; clear hr9))
    exact ⟨rfl, a9, o9, rfl, ha9, HR9.out, hp9, (Mv.of_ext ((Ext.refl _).alloc _)).trans hm9⟩
  | ok t r =>
    rw [hA] at HE
    have HBW := Lib.hid h.lt
    clear h hn2 hA hf
    go_enter Tryz.func40, Tryz.ntmps40
    go_wp2_with (first | (go_at_call 87; refine (HE.out).mono ?_; rintro e w9 ⟨v9, a9, rfl, ⟨d, rfl, hrep⟩, ha9, hr9, hp9, hm9⟩; have HR9 := Lib.hid hr9; have HP9 := Lib.hid hp9; have HREP := Lib.hid hrep; obtain ⟨_, j0, j1, j2, j3, jf0, jf1, jf2, jf3⟩ := (HN2.out.mv hm9 (by have := HBW.out; omega)).nb; clear hr9 hp9 hrep))
    refine bodyPost_ret (v := .agg #[.int .i64 d.k, .int .i64 d.n, .string d.s, .slice d.A d.m d.c]) (by simp [results, Tryz.results40, go_sem, *]) rfl ?_
    exact ⟨_, a9, rfl, ⟨d, rfl, (HREP.out.mono (Q := fun k => W.heap.size + 1 ≤ k) (fun k h1 _ => by simp at h1; omega)).fin (by omega) _ _ _ _⟩, ha9, HR9.out, HP.out.fin HP9.out _ _ _ _, ((Mv.of_ext ((Ext.refl _).alloc _)).trans hm9).fin _ _ _ _⟩
end Go.Proofs.YtnpenepdechkjaaGreatDoor

/- Rules in memory: rows of rules. -/
namespace Go.Proofs.YtnpenepdechkjaaGreatDoor
open Go Go.RowKit

/-- The head of a rule in memory. -/
structure RlD where
  name : ByteArray
  from_ : Int
  on_ : ByteArray
  if_ : Nd
  due : Nd
  unless_ : ByteArray
  else_ : ByteArray
def rcf (d : RlD) : List Value := [.string d.name, .int .i64 d.from_, .string d.on_, .int .i64 d.if_.k, .int .i64 d.if_.n, .string d.if_.s, .slice d.if_.A d.if_.m d.if_.c, .int .i64 d.due.k, .int .i64 d.due.n, .string d.due.s, .slice d.due.A d.due.m d.due.c, .string d.unless_, .string d.else_]
def RlD.val (d : RlD) : Value := .agg #[.string d.name, .int .i64 d.from_, .string d.on_, .int .i64 d.if_.k, .int .i64 d.if_.n, .string d.if_.s, .slice d.if_.A d.if_.m d.if_.c, .int .i64 d.due.k, .int .i64 d.due.n, .string d.due.s, .slice d.due.A d.due.m d.due.c, .string d.unless_, .string d.else_]
theorem rcf_len (d : RlD) : (rcf d).length = 13 := rfl
theorem rcf_one (d : RlD) : ∀ u ∈ rcf d, u.oneCell' = true := fun u hu => by
  simp only [rcf, List.mem_cons, List.not_mem_nil, or_false] at hu
  rcases hu with rfl | rfl | rfl | rfl | rfl | rfl | rfl | rfl | rfl | rfl | rfl | rfl | rfl <;> rfl
/-- d is the head of the rule x, whose trees' rows lie in blocks of which P holds. -/
structure RepR (W : World) (P : Nat → Prop) (d : RlD) (x : Rl) : Prop where
  name : d.name = bs x.name
  from_ : d.from_ = x.from_
  on_ : d.on_ = bs x.on_
  if_ : Rep W P d.if_ x.if_
  due : Rep W P d.due x.due
  unless_ : d.unless_ = bs x.unless_
  else_ : d.else_ = bs x.else_
theorem RepR.keep {W W' : World} {P : Nat → Prop} {d : RlD} {t : Rl} (h : RepR W P d t) (hsz : W.heap.size ≤ W'.heap.size) (hk : ∀ k, P k → k < W.heap.size → W'.heap[k]? = W.heap[k]?) : RepR W' P d t := ⟨h.1, h.2, h.3, h.4.keep hsz hk, h.5.keep hsz hk, h.6, h.7⟩
theorem RepR.mono {W : World} {P Q : Nat → Prop} {d : RlD} {t : Rl} (h : RepR W P d t) (hq : ∀ k, P k → k < W.heap.size → Q k) : RepR W Q d t := ⟨h.1, h.2, h.3, h.4.mono hq, h.5.mono hq, h.6, h.7⟩
theorem RepR.ext {W W' : World} {P : Nat → Prop} {d : RlD} {t : Rl} (h : RepR W P d t) (hx : Ext W W') : RepR W' P d t := h.keep hx.lt fun k _ hk => hx.block k hk
theorem RepR.mv {W W' : World} {P : Nat → Prop} {b : Nat} {d : RlD} {t : Rl} (h : RepR W P d t) (hm : Mv b W W') (hb : ∀ k, P k → k ≠ b) : RepR W' P d t := h.keep hm.size fun k h1 h2 => hm.keep k (hb k h1) h2
theorem info50 : (Tryz.prog.info? 50).map (fun i => (i.zero, i.size, i.bytes)) = some (some (.agg #[.string ⟨#[]⟩, .int .i64 0, .string ⟨#[]⟩, .int .i64 0, .int .i64 0, .string ⟨#[]⟩, .slice none 0 0, .int .i64 0, .int .i64 0, .string ⟨#[]⟩, .slice none 0 0, .string ⟨#[]⟩, .string ⟨#[]⟩]), 13, 184) := by kernel_rfl
/-- A row of rules that the method has made; what the rules hold lies in other blocks. -/
def KRr (W : World) (base : Nat) (v : Value) (hs : List RlD) (ts : List Rl) : Prop :=
  OL rcf 13 W base 50 v hs ∧ hs.length = ts.length ∧ ∀ (i : Nat) (h : RlD) (t : Rl), hs[i]? = some h → ts[i]? = some t → RepR W (fun k => base ≤ k ∧ v.ownBlock ≠ some k) h t
theorem KRr.lt {W : World} {base : Nat} {v : Value} {hs : List RlD} {ts : List Rl} (h : KRr W base v hs ts) : ∀ k, v.ownBlock = some k → base ≤ k ∧ k < W.heap.size := World.ownsRow.lt h.1
theorem KRr.nil (W : World) (base : Nat) : KRr W base (.slice none 0 0) [] [] := ⟨OL.nil W base 50, rfl, fun i h t hh => by simp at hh⟩
theorem KRr.keep {W W' : World} {base : Nat} {v : Value} {hs : List RlD} {ts : List Rl} (h : KRr W base v hs ts) (hsz : W.heap.size ≤ W'.heap.size) (hk : ∀ k, base ≤ k → k < W.heap.size → W'.heap[k]? = W.heap[k]?) : KRr W' base v hs ts :=
  ⟨OL.keepB h.1 fun k hk' => hk k (h.lt k hk').1 (h.lt k hk').2, h.2.1, fun i d t h1 h2 => (h.2.2 i d t h1 h2).keep hsz (fun k h3 h4 => hk k h3.1 h4)⟩
theorem KRr.mv {W W' : World} {base b : Nat} {v : Value} {hs : List RlD} {ts : List Rl} (h : KRr W base v hs ts) (hm : Mv b W W') (hb : b < base) : KRr W' base v hs ts :=
  h.keep hm.size fun k h1 h3 => hm.keep k (by omega) h3
/-- A row of rules that lies in memory. -/
def RW (W : World) (P : Nat → Prop) (A : Option Addr) (n : Nat) (ts : List Rl) : Prop :=
  ∃ ds : List RlD, n = ts.length ∧ ds.length = ts.length ∧ SL rcf 13 W A n ds ∧ (∀ x, A = some x → P x.block ∧ x.block < W.heap.size) ∧ ∀ (i : Nat) (h : RlD) (t : Rl), ds[i]? = some h → ts[i]? = some t → RepR W P h t
theorem RW.nil (W : World) (P : Nat → Prop) : RW W P none 0 [] := ⟨[], rfl, rfl, SL.nil W, (fun _ h => nomatch h), fun i h t hh => by simp at hh⟩
theorem RW.keep {W W' : World} {P : Nat → Prop} {A : Option Addr} {n : Nat} {ts : List Rl} (h : RW W P A n ts) (hsz : W.heap.size ≤ W'.heap.size) (hk : ∀ k, P k → k < W.heap.size → W'.heap[k]? = W.heap[k]?) : RW W' P A n ts := by
  obtain ⟨ds, h1, h2, h3, h4, h5⟩ := h
  exact ⟨ds, h1, h2, h3.blocks fun x hx hl => hk _ (h4 x hx).1 hl, fun x hx => ⟨(h4 x hx).1, Nat.lt_of_lt_of_le (h4 x hx).2 hsz⟩, fun i d t g1 g2 => (h5 i d t g1 g2).keep hsz hk⟩
theorem RW.ext {W W' : World} {P : Nat → Prop} {A : Option Addr} {n : Nat} {ts : List Rl} (h : RW W P A n ts) (hx : Ext W W') : RW W' P A n ts := h.keep hx.lt fun k _ hk => hx.block k hk
theorem RW.mono {W : World} {P Q : Nat → Prop} {A : Option Addr} {n : Nat} {ts : List Rl} (h : RW W P A n ts) (hq : ∀ k, P k → k < W.heap.size → Q k) : RW W Q A n ts := by
  obtain ⟨ds, h1, h2, h3, h4, h5⟩ := h
  exact ⟨ds, h1, h2, h3, fun x hx => ⟨hq _ (h4 x hx).1 (h4 x hx).2, (h4 x hx).2⟩, fun i d t g1 g2 => (h5 i d t g1 g2).mono hq⟩
theorem KRr.row {W : World} {base : Nat} {v : Value} {hs : List RlD} {ts : List Rl} (h : KRr W base v hs ts) : ∃ A c, v = .slice A ts.length c ∧ RW W (fun k => base ≤ k) A ts.length ts := by
  obtain ⟨A, c, e, _, hs1⟩ := OL.form rcf_len h.1
  rw [h.2.1] at e hs1
  refine ⟨A, c, e, hs, rfl, h.2.1, hs1, fun x hx => h.lt x.block (by rw [e, hx]; rfl), fun i d t h1 h2 => (h.2.2 i d t h1 h2).mono fun k hk _ => hk.1⟩
/-- append of a further rule, that lies in blocks newer than the row. -/
theorem KRr.append {W X : World} {base : Nat} {v : Value} {hs : List RlD} {ts : List Rl} (h : KRr X base v hs ts) (hW : ∀ k, v.ownBlock = some k → k < W.heap.size) (d : RlD) (t : Rl) (hd : RepR X (fun k => W.heap.size ≤ k) d t) (hbW : base ≤ W.heap.size) (hWX : W.heap.size ≤ X.heap.size) (hn : hs.length ≤ 100000) (g : Nat) (hg : g = X.heap.size) :
    ∃ A' c' w', (Builtin.append_ #[22, 22] 22 #[v, .slice (some ⟨g, 0, none⟩) 1 1]).run Tryz.prog (X.alloc (.cells #[.string d.name, .int .i64 d.from_, .string d.on_, .int .i64 d.if_.k, .int .i64 d.if_.n, .string d.if_.s, .slice d.if_.A d.if_.m d.if_.c, .int .i64 d.due.k, .int .i64 d.due.n, .string d.due.s, .slice d.due.A d.due.m d.due.c, .string d.unless_, .string d.else_] 50)) = .ok (.slice A' (hs.length + 1) c') w' ∧
      KRr w' base (.slice A' (hs.length + 1) c') (hs ++ [d]) (ts ++ [t]) ∧ (∀ B, B ≤ base → Below B X w') ∧ (∀ k, k < X.heap.size → v.ownBlock ≠ some k → w'.heap[k]? = X.heap[k]?) ∧ X.heap.size ≤ w'.heap.size ∧ (∀ k, (Value.slice A' (hs.length + 1) c').ownBlock = some k → v.ownBlock = some k ∨ X.heap.size ≤ k) := by
  subst hg
  obtain ⟨Y, hY⟩ : ∃ Y, Y = X.alloc (.cells #[.string d.name, .int .i64 d.from_, .string d.on_, .int .i64 d.if_.k, .int .i64 d.if_.n, .string d.if_.s, .slice d.if_.A d.if_.m d.if_.c, .int .i64 d.due.k, .int .i64 d.due.n, .string d.due.s, .slice d.due.A d.due.m d.due.c, .string d.unless_, .string d.else_] 50) := ⟨_, rfl⟩
  have hXY : Ext X Y := by rw [hY]; exact (Ext.refl X).alloc _
  have hYs : Y.heap.size = X.heap.size + 1 := by rw [hY]; simp
  have hso := SL.one (cf := rcf) (sz := 13) X d #[.string d.name, .int .i64 d.from_, .string d.on_, .int .i64 d.if_.k, .int .i64 d.if_.n, .string d.if_.s, .slice d.if_.A d.if_.m d.if_.c, .int .i64 d.due.k, .int .i64 d.due.n, .string d.due.s, .slice d.due.A d.due.m d.due.c, .string d.unless_, .string d.else_] rfl 50
  rw [← hY] at hso ⊢
  obtain ⟨_, hs1⟩ := hso
  have hown : OL rcf 13 Y base 50 v hs := h.1.ext hXY
  obtain ⟨A', c', w', r1, r2, r3, r4, r5⟩ := run_append_src5 (P := Tryz.prog) (t := 22) (e := 50) (size := 13) (bytes := 184) (base := base) Tryz.underlying22 info50 rfl (by omega) hown (A := some ⟨X.heap.size, 0, none⟩) (m := 1) (c := 1) (news := gcells rcf [d]) (gcells_len rcf_len [d])
    (fun _ => ⟨X.heap.size, 0, rfl, fun j u hu => by
      obtain ⟨b, off, e, _, hc⟩ := hs1 (by omega)
      simp only [Option.some.injEq, Addr.mk.injEq] at e
      obtain ⟨rfl, rfl, _⟩ := e
      have := hc 0 d rfl j u (by simpa [gcells] using hu)
      simpa using this⟩)
    (gcells_one rcf_one [d]) (by simp [maxLen]; omega) (by omega) (by omega)
  have hkeep : ∀ k, k < Y.heap.size → v.ownBlock ≠ some k → w'.heap[k]? = Y.heap[k]? := fun k hk hne => r4 k hk (fun a => ownBlock_of hne a)
  have hsz : Y.heap.size ≤ w'.heap.size := (r3 base (Nat.le_refl _)).size
  have hnew : ∀ k, (Value.slice A' (hs.length + 1) c').ownBlock = some k → v.ownBlock = some k ∨ Y.heap.size ≤ k := fun k e => by
    rcases r5 with r5 | r5
    · exact .inl (r5.symm.trans e)
    · rw [r5] at e
      injection e with e; exact .inr (by omega)
  refine ⟨A', c', w', r1, ⟨?_, by simp [h.2.1], fun i e t' h1 h2 => ?_⟩, fun B hB => Below.trans (Below.mono hXY (by omega)) (r3 B hB), fun k hk hne => (hkeep k (by omega) hne).trans (hXY.block k hk), by omega, fun k e => by
    rcases hnew k e with h1 | h1
    · exact .inl h1
    · exact .inr (by omega)⟩
  · unfold OL
    rw [List.length_append, gcells_append]
    exact r2
  · rw [List.getElem?_append] at h1 h2
    rw [h.2.1] at h1
    split at h1
    · next hi =>
      rw [if_pos hi] at h2
      have h3 := (h.2.2 i e t' h1 h2).ext hXY
      exact ((h3.mono (Q := fun k => base ≤ k ∧ v.ownBlock ≠ some k ∧ k < Y.heap.size) (fun k h5 h6 => ⟨h5.1, h5.2, h6⟩)).keep hsz (fun k hk hl => hkeep k hl hk.2.1)).mono fun k hk _ => ⟨hk.1, fun e => by
        rcases hnew k e with h7 | h7
        · exact hk.2.1 h7
        · have := hk.2.2; omega⟩
    · next hi =>
      rw [if_neg hi] at h2
      have h5 : i - ts.length = 0 := by
        have := (List.getElem?_eq_some_iff.1 h1).1
        simpa using this
      rw [h5] at h1 h2
      simp only [List.getElem?_cons_zero, Option.some.injEq] at h1 h2
      subst h1 h2
      have h3 := hd.ext hXY
      exact ((h3.mono (Q := fun k => W.heap.size ≤ k ∧ k < Y.heap.size) (fun k h5 h6 => ⟨h5, h6⟩)).keep hsz (fun k hk hl => hkeep k hl (fun e => by have := hW k e; omega))).mono fun k hk _ => ⟨Nat.le_trans hbW hk.1, fun e => by
        rcases hnew k e with h7 | h7
        · have := hW k h7; have := hk.1; omega
        · have := hk.2; omega⟩
end Go.Proofs.YtnpenepdechkjaaGreatDoor

/- The production's part: an optional part of a rule. -/
namespace Go.Proofs.YtnpenepdechkjaaGreatDoor
open Go Go.RowKit

def trZero : Tr := .nd 0 0 [] []
set_option maxRecDepth 100000 in
theorem ppartS_any {W : World} {b : Nat} {A : Option Addr} {N c : Nat} {toks : List Tk} {a o : Nat} (h : PB W b A N c toks a o) (s : List UInt8) (S : ByteArray) (hS : S = bs s) (hs : s ≠ []) :
    Calls Tryz.prog 78 #[.pointer (some ⟨b, 0, none⟩), .string S, .func (.func 75) #[.pointer (some ⟨b, 0, none⟩)] #[]] W (GP b A N c toks a o (fun _ x v => v = .string (bs x)) W (partP s [] nameP (toks.drop a))) := by
  have HP := Lib.hid h
  have htl := (hd_mem h).2.2
  unfold partP
  by_cases hx : (hd (toks.drop a)).tx = s
  · rw [if_pos hx, htl]
    have HT := Lib.hid (ptake_yes h s S hS hs hx)
    obtain ⟨RES, hRES⟩ : ∃ R, R = (nameP (toks.drop (a + 1))).bind fun x r => (mustP wSemi r).bind fun _ r => PR.ok x r := ⟨_, rfl⟩
    rw [← hRES]
    have HRES := Lib.hid hRES
    clear h hS hs hx htl hRES
    go_enter Tryz.func78, Tryz.ntmps78
    go_upto_region 4 with (first | (go_at_call 117; refine (HT.out).mono ?_; rintro e w1 ⟨rfl, hp1, hm1⟩; have HP1 := Lib.hid hp1; clear hp1))
    have HN := Lib.hid (pname_any HP1.out)
    cases hN : nameP (toks.drop (a + 1)) with
    | bad r er =>
      rw [hN] at HN
      have hres := HRES.out
      rw [hN, PR.bind_bad] at hres
      clear hN HRES
      subst hres
      go_wp2_with (first | (go_at_call 75; refine (HN.out).mono ?_; rintro e w2 ⟨a2, o2, rfl, ha2, hr2, hp2, hm2⟩; have HR2 := Lib.hid hr2; clear hr2))
      exact ⟨rfl, a2, o2, rfl, by omega, HR2.out, hp2, hm1.trans hm2⟩
    | ok x r =>
      rw [hN] at HN
      have hres := HRES.out
      rw [hN, PR.bind_ok] at hres
      clear HRES
      have HRES := Lib.hid hres
      clear hN hres
      go_upto_region 5 with (first | (go_at_call 75; refine (HN.out).mono ?_; rintro e w2 ⟨v2, a2, rfl, rfl, ha2, hr2, hp2, hm2⟩; have HR2 := Lib.hid hr2; have HP2 := Lib.hid hp2; clear hr2 hp2))
      have HM := Lib.hid (pmust_any HP2.out wSemi ⟨#[59]⟩ rfl (by decide))
      have hres := HRES.out
      rw [HR2.out] at hres
      clear HRES
      have HRES := Lib.hid hres
      clear hres
      cases hM : mustP wSemi (toks.drop a2) with
      | bad r er =>
        rw [hM] at HM
        have hres := HRES.out
        rw [hM, PR.bind_bad] at hres
        clear hM HRES
        subst hres
        go_wp2_with (first | (go_at_call 74; refine (HM.out).mono ?_; rintro e w3 ⟨a3, o3, rfl, ha3, hr3, hp3, hm3⟩; have HR3 := Lib.hid hr3; clear hr3))
        exact ⟨rfl, a3, o3, rfl, by omega, HR3.out, hp3, (hm1.trans hm2).trans hm3⟩
      | ok u r =>
        rw [hM] at HM
        have hres := HRES.out
        rw [hM, PR.bind_ok] at hres
        clear hM HRES
        subst hres
        go_wp2_with (first | (go_at_call 74; refine (HM.out).mono ?_; rintro e w3 ⟨v3, a3, rfl, rfl, ha3, hr3, hp3, hm3⟩; have HR3 := Lib.hid hr3; clear hr3))
        go_ret
        exact ⟨_, a3, rfl, rfl, by omega, HR3.out, hp3, (hm1.trans hm2).trans hm3⟩
  · rw [if_neg hx]
    have HT := Lib.hid (ptake_no h s S hS hx)
    clear h hS hs hx htl
    go_enter Tryz.func78, Tryz.ntmps78
    go_wp2_with (first | (go_at_call 117; refine (HT.out).mono ?_; rintro e w1 ⟨rfl, hx1⟩))
    go_ret
    exact ⟨_, a, rfl, rfl, Nat.le_refl _, rfl, HP.out.ext hx1, Mv.of_ext hx1⟩
set_option maxHeartbeats 1000000 in
set_option maxRecDepth 100000 in
theorem ppartN_any (f : Nat) {W : World} {b : Nat} {A : Option Addr} {N c : Nat} {toks : List Tk} {a o : Nat} (h : PB W b A N c toks a o) (ho : o ≤ 12) (hf : 9 * (N - a) + 7 < f) (s : List UInt8) (S : ByteArray) (hS : S = bs s) (hs : s ≠ []) :
    Calls Tryz.prog 79 #[.pointer (some ⟨b, 0, none⟩), .string S, .func (.func 40) #[.pointer (some ⟨b, 0, none⟩)] #[]] W (GP b A N c toks a o (RT W.heap.size) W (partP s trZero (exprP f 1 o) (toks.drop a))) := by
  have HP := Lib.hid h
  have htl := (hd_mem h).2.2
  have hx0 : Ext W ((W.alloc (.cells #[.int .i64 0, .int .i64 0, .string ⟨#[]⟩, .slice none 0 0] 31)).alloc (.cells #[.int .i64 0, .int .i64 0, .string ⟨#[]⟩, .slice none 0 0] 31)) := ((Ext.refl W).alloc _).alloc _
  have HX0 := Lib.hid hx0
  have HN6 := Lib.hid (show NX ((W.alloc (.cells #[.int .i64 0, .int .i64 0, .string ⟨#[]⟩, .slice none 0 0] 31)).alloc (.cells #[.int .i64 0, .int .i64 0, .string ⟨#[]⟩, .slice none 0 0] 31)) W.heap.size 0 0 ⟨#[]⟩ (.slice none 0 0) from NX.mv (b := W.heap.size + 1) (show NX (W.alloc (.cells #[.int .i64 0, .int .i64 0, .string ⟨#[]⟩, .slice none 0 0] 31)) W.heap.size 0 0 ⟨#[]⟩ (.slice none 0 0) from heap_alloc_new _ _) (Mv.of_ext ((Ext.refl _).alloc _)) (by omega))
  have HN7 := Lib.hid (show NX ((W.alloc (.cells #[.int .i64 0, .int .i64 0, .string ⟨#[]⟩, .slice none 0 0] 31)).alloc (.cells #[.int .i64 0, .int .i64 0, .string ⟨#[]⟩, .slice none 0 0] 31)) (W.heap.size + 1) 0 0 ⟨#[]⟩ (.slice none 0 0) from by
    have := heap_alloc_new (W.alloc (.cells #[.int .i64 0, .int .i64 0, .string ⟨#[]⟩, .slice none 0 0] 31)) (.cells #[.int .i64 0, .int .i64 0, .string ⟨#[]⟩, .slice none 0 0] 31)
    simpa [NX] using this)
  have HBW := Lib.hid h.lt
  unfold partP
  by_cases hx : (hd (toks.drop a)).tx = s
  · rw [if_pos hx, htl]
    have HT := Lib.hid (fun X (hX : Ext W X) => ptake_yes (h.ext hX) s S hS hs hx)
    obtain ⟨RES, hRES⟩ : ∃ R, R = (exprP f 1 o (toks.drop (a + 1))).bind fun x r => (mustP wSemi r).bind fun _ r => PR.ok x r := ⟨_, rfl⟩
    rw [← hRES]
    have HRES := Lib.hid hRES
    clear h hS hs hx htl hx0 hRES
    go_enter Tryz.func79, Tryz.ntmps79
    go_upto_region 4 with (first | (go_at_call 117; refine (HT.out _ HX0.out).mono ?_; rintro e w1 ⟨rfl, hp1, hm1⟩; have HP1 := Lib.hid hp1; clear hp1))
    have HE := Lib.hid (pwhole_any f HP1.out ho (by omega))
    have h1s : W.heap.size + 2 ≤ w1.heap.size := by have := hm1.size; simpa using this
    have hmW1 := (Mv.of_ext HX0.out).trans hm1
    have HN61 := Lib.hid (HN6.out.mv hm1 (by have := HBW.out; omega))
    cases hE : exprP f 1 o (toks.drop (a + 1)) with
    | bad r er =>
      rw [hE] at HE
      have hres := HRES.out
      rw [hE, PR.bind_bad] at hres
      clear hE HRES
      subst hres
      go_wp2_with (first | (go_at_call 40; refine (HE.out).mono ?_; rintro e w2 ⟨a2, o2, rfl, ha2, hr2, hp2, hm2⟩; have HR2 := Lib.hid hr2; clear hr2))
      exact ⟨rfl, a2, o2, rfl, by omega, HR2.out, hp2, hmW1.trans hm2⟩
    | ok x r =>
      rw [hE] at HE
      have hres := HRES.out
      rw [hE, PR.bind_ok] at hres
      clear HRES
      have HRES := Lib.hid hres
      clear hE hres
      go_upto_region 5 with (first | (go_at_call 40; refine (HE.out).mono ?_; rintro e w2 ⟨v2, a2, rfl, ⟨d, rfl, hrep⟩, ha2, hr2, hp2, hm2⟩; have HR2 := Lib.hid hr2; have HP2 := Lib.hid hp2; have HREP := Lib.hid hrep; clear hr2 hp2 hrep))
      obtain ⟨w3, hw3⟩ : ∃ w3, w3 = w2.alloc (.cells #[.int .i64 d.k, .int .i64 d.n, .string d.s, .slice d.A d.m d.c] 31) := ⟨_, rfl⟩
      have hx3 : Ext w2 w3 := by rw [hw3]; exact (Ext.refl _).alloc _
      have hn8 : NX w3 w2.heap.size d.k d.n d.s (.slice d.A d.m d.c) := by rw [hw3]; exact heap_alloc_new _ _
      rw [← hw3]
      clear hw3
      have HM := Lib.hid (pmust_any (HP2.out.ext hx3) wSemi ⟨#[59]⟩ rfl (by decide))
      have hres := HRES.out
      rw [HR2.out] at hres
      clear HRES
      have HRES := Lib.hid hres
      clear hres
      cases hM : mustP wSemi (toks.drop a2) with
      | bad r er =>
        rw [hM] at HM
        have hres := HRES.out
        rw [hM, PR.bind_bad] at hres
        clear hM HRES
        subst hres
        go_wp2_with (first | (go_at_call 74; refine (HM.out).mono ?_; rintro e w4 ⟨a3, o3, rfl, ha3, hr3, hp3, hm3⟩; have HR3 := Lib.hid hr3; clear hr3))
        exact ⟨rfl, a3, o3, rfl, by omega, HR3.out, hp3, ((hmW1.trans hm2).trans (Mv.of_ext hx3)).trans hm3⟩
      | ok u r =>
        rw [hM] at HM
        have hres := HRES.out
        rw [hM, PR.bind_ok] at hres
        clear hM HRES
        subst hres
        have hb2 : b < w2.heap.size := HP2.out.lt
        go_upto_region 6 with (first | (go_at_call 74; refine (HM.out).mono ?_; rintro e w4 ⟨v3, a3, rfl, rfl, ha3, hr3, hp3, hm3⟩; have HR3 := Lib.hid hr3; have HP3 := Lib.hid hp3; clear hr3 hp3))
        have h2s := hm2.size
        have hmv24 : Mv b w2 w4 := (Mv.of_ext hx3).trans hm3
        have hn84 := (hn8.mv hm3 (by omega)).nb
        have hn64 := ((HN61.out.mv hm2 (by have := HBW.out; omega)).mv hmv24 (by have := HBW.out; omega)).nb
        have HMV := Lib.hid ((hmW1.trans hm2).trans hmv24)
        have HREP4 := Lib.hid ((HREP.out.mv hmv24 (by have := HP1.out.lt; omega)).mono (Q := fun k => W.heap.size + 1 ≤ k) (fun k h1 _ => by have h9 : w1.heap.size ≤ k := h1; omega))
        clear hn8 hx3 hm1 hm2 hm3 hmv24 hmW1 HN61 HN6 HN7
        obtain ⟨_, d0, d1, d2, d3, _, _, _, _⟩ := hn84
        obtain ⟨_, j0, j1, j2, j3, jf0, jf1, jf2, jf3⟩ := hn64
        go_wp2
        refine bodyPost_ret (v := .agg #[.int .i64 d.k, .int .i64 d.n, .string d.s, .slice d.A d.m d.c]) (by simp [results, Tryz.results79, go_sem, *]) rfl ?_
        exact ⟨_, a3, rfl, ⟨d, rfl, HREP4.out.fin (by omega) _ _ _ _⟩, by omega, HR3.out, HP.out.fin HP3.out _ _ _ _, HMV.out.fin _ _ _ _⟩
  · rw [if_neg hx]
    have HT := Lib.hid (fun X (hX : Ext W X) => ptake_no (h.ext hX) s S hS hx)
    clear h hS hs hx htl hx0
    go_enter Tryz.func79, Tryz.ntmps79
    go_upto_region 3 with (first | (go_at_call 117; refine (HT.out _ HX0.out).mono ?_; rintro e w1 ⟨rfl, hx1⟩))
    have hn6 := (HN6.out.mv (b := b) (Mv.of_ext hx1) (by have := HBW.out; omega)).nb
    have hn7 := (HN7.out.mv (b := b) (Mv.of_ext hx1) (by have := HBW.out; omega)).nb
    have HXW := Lib.hid (HX0.out.trans hx1)
    clear hx1 HN6 HN7
    obtain ⟨_, d0, d1, d2, d3, _, _, _, _⟩ := hn7
    obtain ⟨_, j0, j1, j2, j3, jf0, jf1, jf2, jf3⟩ := hn6
    go_wp2
    refine bodyPost_ret (v := .agg #[.int .i64 0, .int .i64 0, .string ⟨#[]⟩, .slice none 0 0]) (by simp [results, Tryz.results79, go_sem, *]) rfl ?_
    exact ⟨_, a, rfl, ⟨⟨0, 0, ⟨#[]⟩, none, 0, 0⟩, rfl, Rep.leaf _ _ 0 0 []⟩, Nat.le_refl _, rfl, HP.out.fin (HP.out.ext HXW.out) _ _ _ _, (Mv.of_ext HXW.out).fin _ _ _ _⟩
end Go.Proofs.YtnpenepdechkjaaGreatDoor

/- The parser reads from the left: what it answers hangs on the tokens that it has read and on the next one. -/
namespace Go.Proofs.YtnpenepdechkjaaGreatDoor
open Go

/-- A token other than the end. -/
def NE (t : Tk) : Prop := t.tx ≠ [] ∨ t.kd ≠ 0
def PR.rs {α : Type} : PR α → List Tk
  | .ok _ r => r
  | .bad r _ => r
def PR.re {α : Type} (r' : List Tk) : PR α → PR α
  | .ok v _ => .ok v r'
  | .bad _ e => .bad r' e
theorem hd_app {pre pre' r r' : List Tk} (h : pre'.map tri = pre.map tri) (h2 : tri (hd r') = tri (hd r)) : tri (hd (pre' ++ r')) = tri (hd (pre ++ r)) := by
  cases pre with
  | nil =>
    cases pre' with
    | nil => simpa using h2
    | cons a b => simp at h
  | cons a b =>
    cases pre' with
    | nil => simp at h
    | cons a' b' =>
      simp only [List.map_cons, List.cons.injEq] at h
      exact h.1
/-- p reads from the left, at lists of at most m tokens. -/
def Loc {α : Type} (m : Nat) (p : List Tk → PR α) : Prop := ∀ l, l.length ≤ m → ∃ pre, l = pre ++ (p l).rs ∧ (∀ t ∈ pre, NE t) ∧ ∀ pre' r', pre'.map tri = pre.map tri → tri (hd r') = tri (hd (p l).rs) → p (pre' ++ r') = (p l).re r'
theorem map_nil {l : List Tk} (h : l.map tri = ([] : List Tk).map tri) : l = [] := by simpa using h
theorem Loc.mono {α : Type} {m k : Nat} {p : List Tk → PR α} (h : Loc m p) (hk : k ≤ m) : Loc k p := fun l hl => h l (Nat.le_trans hl hk)
theorem Loc.pure {α : Type} {m : Nat} (v : α) : Loc m (fun r => PR.ok v r) := fun l _ => ⟨[], rfl, (fun _ h => nomatch h), fun pre' r' h _ => by rw [map_nil h]; rfl⟩
theorem Loc.fail {α : Type} {m : Nat} (e : Int) : Loc m (fun r => (PR.bad r e : PR α)) := fun l _ => ⟨[], rfl, (fun _ h => nomatch h), fun pre' r' h _ => by rw [map_nil h]; rfl⟩
theorem Loc.head {α : Type} {m : Nat} (f : Int × List UInt8 × Int → List Tk → PR α) (h : ∀ x, Loc m (f x)) : Loc m (fun r => f (tri (hd r)) r) := fun l hl => by
  obtain ⟨pre, h1, h2, h3⟩ := h (tri (hd l)) l hl
  refine ⟨pre, h1, h2, fun pre' r' a b => ?_⟩
  have h4 : tri (hd (pre' ++ r')) = tri (hd l) := by
    conv => rhs; rw [h1]
    exact hd_app a b
  show f (tri (hd (pre' ++ r'))) (pre' ++ r') = _
  rw [h4]
  exact h3 pre' r' a b
theorem Loc.cond {α : Type} {m : Nat} (C : Int × List UInt8 × Int → Prop) [DecidablePred C] {p q : List Tk → PR α} (hp : Loc m p) (hq : Loc m q) : Loc m (fun r => if C (tri (hd r)) then p r else q r) := by
  refine Loc.head (fun x r => if C x then p r else q r) fun x => ?_
  by_cases h : C x
  · simpa only [if_pos h] using hp
  · simpa only [if_neg h] using hq
theorem Loc.bind {α β : Type} {m : Nat} {p : List Tk → PR α} {f : α → List Tk → PR β} (hp : Loc m p) (hf : ∀ v, Loc m (f v)) : Loc m (fun r => (p r).bind f) := fun l hl => by
  obtain ⟨pre, h1, h2, h3⟩ := hp l hl
  cases h : p l with
  | bad r e =>
    rw [h] at h1 h3
    show ∃ pre, l = pre ++ ((p l).bind f).rs ∧ _ ∧ ∀ pre' r', _ → tri (hd r') = tri (hd ((p l).bind f).rs) → (p (pre' ++ r')).bind f = ((p l).bind f).re r'
    rw [h]
    exact ⟨pre, h1, h2, fun pre' r' a b => by rw [h3 pre' r' a b]; rfl⟩
  | ok v r =>
    rw [h] at h1 h3
    show ∃ pre, l = pre ++ ((p l).bind f).rs ∧ _ ∧ ∀ pre' r', _ → tri (hd r') = tri (hd ((p l).bind f).rs) → (p (pre' ++ r')).bind f = ((p l).bind f).re r'
    rw [h]
    have h1' : l = pre ++ r := h1
    have hr : r.length ≤ m := by rw [h1'] at hl; simp at hl; omega
    obtain ⟨pre2, g1, g2, g3⟩ := hf v r hr
    refine ⟨pre ++ pre2, ?_, fun t ht => ?_, fun pre' r' a b => ?_⟩
    · show l = pre ++ pre2 ++ (f v r).rs
      rw [List.append_assoc, ← g1]; exact h1'
    · rcases List.mem_append.1 ht with ht | ht
      · exact h2 t ht
      · exact g2 t ht
    · rw [List.map_append] at a
      obtain ⟨x, y, rfl, hx, hy⟩ := List.map_eq_append_iff.1 a
      have b' : tri (hd r') = tri (hd (f v r).rs) := b
      have h5 : tri (hd (y ++ r')) = tri (hd r) := by
        conv => rhs; rw [g1]
        exact hd_app hy b'
      rw [List.append_assoc, h3 x (y ++ r') hx h5]
      exact g3 y r' hy b'
theorem Loc.eat {α : Type} {m : Nat} (C : Int × List UInt8 × Int → Prop) [DecidablePred C] (hC : ∀ x, C x → x.2.1 ≠ [] ∨ x.1 ≠ 0) {q : Int × List UInt8 × Int → List Tk → PR α} {p : List Tk → PR α} (hq : ∀ x, C x → ∀ k, k < m → Loc k (q x)) (hp : Loc m p) :
    Loc m (fun r => if C (tri (hd r)) then q (tri (hd r)) r.tail else p r) := fun l hl => by
  by_cases h : C (tri (hd l))
  · have h0 : l ≠ [] := fun e => by
      subst e
      rcases hC _ h with h1 | h1
      · exact h1 rfl
      · exact h1 rfl
    obtain ⟨t, l1, rfl⟩ := List.exists_cons_of_ne_nil h0
    obtain ⟨pre, h1, h2, h3⟩ := hq _ h l1.length (by simp at hl; omega) l1 (Nat.le_refl _)
    have e : (if C (tri (hd (t :: l1))) then q (tri (hd (t :: l1))) (t :: l1).tail else p (t :: l1)) = q (tri t) l1 := if_pos h
    refine ⟨t :: pre, ?_, fun x hx => ?_, fun pre' r' a b => ?_⟩
    · show t :: l1 = t :: pre ++ PR.rs (if C (tri (hd (t :: l1))) then q (tri (hd (t :: l1))) (t :: l1).tail else p (t :: l1))
      rw [e, List.cons_append]
      exact congrArg (t :: ·) h1
    · rcases List.mem_cons.1 hx with hx | hx
      · subst hx; exact hC _ h
      · exact h2 x hx
    · have b' : tri (hd r') = tri (hd (PR.rs (if C (tri (hd (t :: l1))) then q (tri (hd (t :: l1))) (t :: l1).tail else p (t :: l1)))) := b
      rw [e] at b'
      cases pre' with
      | nil => simp at a
      | cons t' pre' =>
        simp only [List.map_cons, List.cons.injEq] at a
        show (if C (tri t') then q (tri t') (pre' ++ r') else p (t' :: pre' ++ r')) = PR.re r' (if C (tri (hd (t :: l1))) then q (tri (hd (t :: l1))) (t :: l1).tail else p (t :: l1))
        rw [e, a.1, if_pos (show C (tri t) from h)]
        exact h3 pre' r' a.2 b'
  · obtain ⟨pre, h1, h2, h3⟩ := hp l hl
    have e : (if C (tri (hd l)) then q (tri (hd l)) l.tail else p l) = p l := if_neg h
    refine ⟨pre, ?_, h2, fun pre' r' a b => ?_⟩
    · show l = pre ++ PR.rs (if C (tri (hd l)) then q (tri (hd l)) l.tail else p l)
      rw [e]; exact h1
    · have b' : tri (hd r') = tri (hd (PR.rs (if C (tri (hd l)) then q (tri (hd l)) l.tail else p l))) := b
      rw [e] at b'
      have h4 : tri (hd (pre' ++ r')) = tri (hd l) := by
        conv => rhs; rw [h1]
        exact hd_app a b'
      show (if C (tri (hd (pre' ++ r'))) then q (tri (hd (pre' ++ r'))) (pre' ++ r').tail else p (pre' ++ r')) = PR.re r' (if C (tri (hd l)) then q (tri (hd l)) l.tail else p l)
      rw [e, h4, if_neg h]
      exact h3 pre' r' a b'
theorem loc_must {m : Nat} {s : List UInt8} (hs : s ≠ []) : Loc m (mustP s) :=
  Loc.eat (fun x => x.2.1 = s) (fun _ h => .inl (by rw [h]; exact hs)) (q := fun _ r => PR.ok () r) (p := fun r => PR.bad r 20) (fun _ _ _ _ => Loc.pure ()) (Loc.fail 20)
theorem loc_opens {m : Nat} {s : List UInt8} (hs : s ≠ []) (o : Nat) : Loc m (opensP s o) := by
  by_cases h : o = 12
  · have e : opensP s o = fun r => if (tri (hd r)).2.1 = s then PR.bad r 2 else PR.bad r 20 := by funext r; unfold opensP; rw [if_pos h]; rfl
    rw [e]
    exact Loc.cond (fun x => x.2.1 = s) (Loc.fail 2) (Loc.fail 20)
  · have e : opensP s o = fun r => if (tri (hd r)).2.1 = s then PR.ok () r.tail else PR.bad r 20 := by funext r; unfold opensP; rw [if_neg h]; rfl
    rw [e]
    exact Loc.eat (fun x => x.2.1 = s) (fun _ h => .inl (by rw [h]; exact hs)) (q := fun _ r => PR.ok () r) (p := fun r => PR.bad r 20) (fun _ _ _ _ => Loc.pure ()) (Loc.fail 20)
theorem loc_tok {α : Type} {m : Nat} {k : Int} (hk : k ≠ 0) {f : Tk → List Tk → PR α} (hf : ∀ t t', tri t = tri t' → f t = f t') (h : ∀ t, Loc m (f t)) : Loc m (fun r => (tokP k r).bind f) := by
  have e : (fun r => (tokP k r).bind f) = fun r => if (tri (hd r)).1 = k then f ⟨(tri (hd r)).1, 0, (tri (hd r)).2.1, (tri (hd r)).2.2⟩ r.tail else PR.bad r 20 := by
    funext r
    unfold tokP
    by_cases h9 : (hd r).kd = k
    · rw [if_pos h9, if_pos (show (tri (hd r)).1 = k from h9), PR.bind_ok]
      exact congrFun (hf (hd r) ⟨(hd r).kd, 0, (hd r).tx, (hd r).nm⟩ rfl) _
    · rw [if_neg h9, if_neg (show ¬ (tri (hd r)).1 = k from h9), PR.bind_bad]
  rw [e]
  exact Loc.eat (fun x => x.1 = k) (fun _ h => .inr (by rw [h]; exact hk)) (q := fun x r => f ⟨x.1, 0, x.2.1, x.2.2⟩ r) (p := fun r => PR.bad r 20) (fun x _ k hk => (h _).mono (Nat.le_of_lt hk)) (Loc.fail 20)
theorem loc_name {m : Nat} : Loc m nameP :=
  Loc.cond (fun x => x.2.1 ∈ reserved) (Loc.fail 20) (loc_tok (by decide) (fun t t' h => by
    have : t.tx = t'.tx := congrArg (fun x => x.2.1) h
    rw [this]) fun t => Loc.pure _)
theorem loc_join {m : Nat} (lv : Nat) (op : List UInt8) (a b : Tr) : Loc m (fun r => PR.ok (joinP lv op a b r).1 (joinP lv op a b r).2) := by
  by_cases h : lv = 5
  · have e : (fun r => PR.ok (joinP lv op a b r).1 (joinP lv op a b r).2) = fun r => if (tri (hd r)).2.1 ∈ units then PR.ok (Tr.nd (if op = wMinus then 8 else 7) 0 (tri (hd r)).2.1 [a, b]) r.tail else PR.ok (Tr.nd 6 0 op [a, b]) r := by
      funext r
      unfold joinP
      by_cases h2 : (hd r).tx ∈ units
      · rw [if_pos ⟨h, h2⟩, if_pos (show (tri (hd r)).2.1 ∈ units from h2)]; rfl
      · rw [if_neg (fun x => h2 x.2), if_neg (show ¬ (tri (hd r)).2.1 ∈ units from h2)]
    rw [e]
    exact Loc.eat (fun x => x.2.1 ∈ units) (fun x h => .inl (fun e => by rw [e] at h; revert h; decide)) (q := fun x r => PR.ok (Tr.nd (if op = wMinus then 8 else 7) 0 x.2.1 [a, b]) r) (p := fun r => PR.ok (Tr.nd 6 0 op [a, b]) r) (fun _ _ _ _ => Loc.pure _) (Loc.pure _)
  · have e : (fun r => PR.ok (joinP lv op a b r).1 (joinP lv op a b r).2) = fun r => PR.ok (Tr.nd 6 0 op [a, b]) r := by
      funext r
      unfold joinP
      rw [if_neg (fun x => h x.1)]
    rw [e]
    exact Loc.pure _
theorem Loc.len {α : Type} {p : List Tk → PR α} (h : ∀ m, Loc m p) (l : List Tk) : (p l).rs.length ≤ l.length := by
  obtain ⟨pre, h1, _⟩ := h l.length l (Nat.le_refl _)
  have := congrArg List.length h1
  rw [List.length_append] at this
  omega
theorem hd_nil : hd [] = tkE := rfl
theorem lvOf_nil0 : lvOf [] = 0 := by decide
theorem ne_nil_of_lv {lv : Nat} (hlv : 1 ≤ lv) {r : List Tk} (h : lvOf (hd r).tx = lv) : r ≠ [] := fun e => by
  subst e
  have : lvOf (hd []).tx = 0 := lvOf_nil0
  omega
theorem join_len2 (lv : Nat) (op : List UInt8) (a b : Tr) (r : List Tk) : (joinP lv op a b r).2.length ≤ r.length := by
  unfold joinP
  split
  · simp
  · exact Nat.le_refl _
theorem loop_fuel {E : Nat → Nat → List Tk → PR Tr} (hE : ∀ lv o m, 1 ≤ lv → Loc m (E lv o)) {lv o : Nat} (hlv : 1 ≤ lv) : ∀ (g g' : Nat) (n : Tr) (r : List Tk), r.length ≤ g → r.length ≤ g' → loopP E lv o g n r = loopP E lv o g' n r := by
  intro g
  induction g with
  | zero =>
    intro g' n r h _
    have h0 : r = [] := List.length_eq_zero_iff.1 (by omega)
    cases g' with
    | zero => rfl
    | succ g' =>
      rw [loopP, loopP, if_neg fun e => ne_nil_of_lv hlv e h0]
  | succ g ih =>
    intro g' n r h h'
    cases g' with
    | zero =>
      have h0 : r = [] := List.length_eq_zero_iff.1 (by omega)
      rw [loopP, loopP, if_neg fun e => ne_nil_of_lv hlv e h0]
    | succ g' =>
      rw [loopP, loopP]
      by_cases h1 : lvOf (hd r).tx = lv
      · rw [if_pos h1, if_pos h1]
        obtain ⟨t, r1, rfl⟩ := List.exists_cons_of_ne_nil (ne_nil_of_lv hlv h1)
        have h2 := Loc.len (fun m => hE (lv + 1) o m (by omega)) (t :: r1).tail
        cases h3 : E (lv + 1) o (t :: r1).tail with
        | bad r e => rfl
        | ok b r2 =>
          rw [h3] at h2
          simp only [PR.bind_ok]
          simp only [PR.rs, List.tail_cons, List.length_cons] at h2 h h'
          by_cases h4 : lv = 4
          · rw [if_pos h4, if_pos h4]
          · rw [if_neg h4, if_neg h4]
            have h5 := join_len2 lv (hd (t :: r1)).tx n b r2
            exact ih g' _ _ (by omega) (by omega)
      · rw [if_neg h1, if_neg h1]
def LP (E : Nat → Nat → List Tk → PR Tr) (lv o : Nat) (n : Tr) (r : List Tk) : PR Tr := loopP E lv o r.length n r
theorem LP_eq {E : Nat → Nat → List Tk → PR Tr} (hE : ∀ lv o m, 1 ≤ lv → Loc m (E lv o)) {lv o : Nat} (hlv : 1 ≤ lv) (n : Tr) (r : List Tk) :
    LP E lv o n r = if lvOf (hd r).tx = lv then (E (lv + 1) o r.tail).bind fun b r2 => if lv = 4 then .ok (joinP lv (hd r).tx n b r2).1 (joinP lv (hd r).tx n b r2).2 else LP E lv o (joinP lv (hd r).tx n b r2).1 (joinP lv (hd r).tx n b r2).2 else .ok n r := by
  unfold LP
  rw [loop_fuel hE hlv r.length (r.length + 1) n r (Nat.le_refl _) (Nat.le_succ _), loopP]
  by_cases h1 : lvOf (hd r).tx = lv
  · rw [if_pos h1, if_pos h1]
    have h2 := Loc.len (fun m => hE (lv + 1) o m (by omega)) r.tail
    cases h3 : E (lv + 1) o r.tail with
    | bad r e => rfl
    | ok b r2 =>
      rw [h3] at h2
      simp only [PR.bind_ok]
      by_cases h4 : lv = 4
      · rw [if_pos h4, if_pos h4]
      · rw [if_neg h4, if_neg h4]
        have h5 := join_len2 lv (hd r).tx n b r2
        simp only [PR.rs, List.length_tail] at h2
        exact loop_fuel hE hlv _ _ _ _ (by omega) (Nat.le_refl _)
  · rw [if_neg h1, if_neg h1]
theorem loc_loop {E : Nat → Nat → List Tk → PR Tr} (hE : ∀ lv o m, 1 ≤ lv → Loc m (E lv o)) {lv o : Nat} (hlv : 1 ≤ lv) : ∀ (m : Nat) (n : Tr), Loc m (LP E lv o n) := by
  intro m
  induction m using Nat.strongRecOn with
  | ind m ih =>
    intro n
    have e : LP E lv o n = fun r => if lvOf (tri (hd r)).2.1 = lv then (E (lv + 1) o r.tail).bind fun b r2 => (PR.ok (joinP lv (tri (hd r)).2.1 n b r2).1 (joinP lv (tri (hd r)).2.1 n b r2).2).bind fun w r3 => if lv = 4 then .ok w r3 else LP E lv o w r3 else .ok n r := by
      funext r
      rw [LP_eq hE hlv]
      rfl
    rw [e]
    refine Loc.eat (fun x => lvOf x.2.1 = lv) (fun x h => .inl fun e => ?_) (q := fun x r => (E (lv + 1) o r).bind fun b r2 => (PR.ok (joinP lv x.2.1 n b r2).1 (joinP lv x.2.1 n b r2).2).bind fun w r3 => if lv = 4 then .ok w r3 else LP E lv o w r3) (p := fun r => PR.ok n r) (fun x hx k hk => ?_) (Loc.pure n)
    · simp only [e, lvOf_nil0] at h
      omega
    · refine Loc.bind (hE _ _ _ (by omega)) fun b => Loc.bind (loc_join lv x.2.1 n b) fun w => ?_
      by_cases h4 : lv = 4
      · simpa only [if_pos h4] using Loc.pure w
      · simpa only [if_neg h4] using ih k hk w
theorem argsN_tri {t t' : Tk} (h : tri t = tri t') : t.tx = t'.tx := congrArg (fun x => x.2.1) h
theorem loc_call {E : Nat → Nat → List Tk → PR Tr} (hE : ∀ lv o m, 1 ≤ lv → Loc m (E lv o)) (o m : Nat) : Loc m (callP E o) := by
  unfold callP
  refine loc_tok (by decide) (fun t t' h => by rw [argsN_tri h]) fun t => Loc.bind (loc_opens (by decide) o) fun _ => Loc.bind (hE _ _ _ (by omega)) fun a => ?_
  by_cases h : argsN t.tx = 1
  · simp only [if_pos h]
    exact Loc.bind (loc_must (by decide)) fun _ => Loc.pure _
  · simp only [if_neg h]
    exact Loc.bind (loc_must (by decide)) fun _ => Loc.bind (hE _ _ _ (by omega)) fun b => Loc.bind (loc_must (by decide)) fun _ => Loc.pure _
theorem loc_choice {E : Nat → Nat → List Tk → PR Tr} (hE : ∀ lv o m, 1 ≤ lv → Loc m (E lv o)) (o m : Nat) : Loc m (choiceP E o) :=
  Loc.bind (loc_opens (by decide) o) fun _ => Loc.bind (hE _ _ _ (by omega)) fun a => Loc.bind (loc_must (by decide)) fun _ => Loc.bind (hE _ _ _ (by omega)) fun b => Loc.bind (loc_must (by decide)) fun _ => Loc.bind (hE _ _ _ (by omega)) fun c => Loc.bind (loc_must (by decide)) fun _ => Loc.pure _
theorem loc_prim {E : Nat → Nat → List Tk → PR Tr} (hE : ∀ lv o m, 1 ≤ lv → Loc m (E lv o)) (o m : Nat) : Loc m (primP E o) := by
  unfold primP
  refine Loc.eat (fun x => x.1 = 2) (fun _ h => .inr (by rw [h]; decide)) (q := fun x r => PR.ok (Tr.nd 1 x.2.2 [] []) r) (fun _ _ _ _ => Loc.pure _) ?_
  refine Loc.eat (fun x => x.1 = 3) (fun _ h => .inr (by rw [h]; decide)) (q := fun x r => PR.ok (Tr.nd 3 x.2.2 [] []) r) (fun _ _ _ _ => Loc.pure _) ?_
  refine Loc.eat (fun x => x.2.1 = wTrue) (fun _ h => .inl (by rw [h]; decide)) (q := fun _ r => PR.ok (Tr.nd 2 1 [] []) r) (fun _ _ _ _ => Loc.pure _) ?_
  refine Loc.eat (fun x => x.2.1 = wFalse) (fun _ h => .inl (by rw [h]; decide)) (q := fun _ r => PR.ok (Tr.nd 2 0 [] []) r) (fun _ _ _ _ => Loc.pure _) ?_
  refine Loc.cond (fun x => x.2.1 = wOpen) (Loc.bind (loc_opens (by decide) o) fun _ => Loc.bind (hE _ _ _ (by omega)) fun n => Loc.bind (loc_must (by decide)) fun _ => Loc.pure n) ?_
  refine Loc.cond (fun x => x.2.1 = wIf) (loc_choice hE o m) ?_
  refine Loc.cond (fun x => x.2.1 ∈ functions) (loc_call hE o m) ?_
  exact Loc.eat (fun x => x.2.1 ∈ fields) (fun x h => .inl (fun e => by rw [e] at h; revert h; decide)) (q := fun x r => PR.ok (Tr.nd 4 0 x.2.1 []) r) (fun _ _ _ _ => Loc.pure _) (Loc.fail 20)
theorem loc_step {E : Nat → Nat → List Tk → PR Tr} (hE : ∀ lv o m, 1 ≤ lv → Loc m (E lv o)) (lv o m : Nat) (hlv : 1 ≤ lv) : Loc m (stepP E lv o) := by
  refine Loc.head (fun x r => if lv = 3 ∧ x.2.1 = wNot ∨ lv = 7 ∧ x.2.1 = wMinus then (opensP x.2.1 o r).bind fun _ r2 => (E lv (o + 1) r2).bind fun n r3 => .ok (.nd 5 0 x.2.1 [n]) r3
    else if lv = 8 then primP E o r else (E (lv + 1) o r).bind fun n r2 => LP E lv o n r2) fun x => ?_
  by_cases h : lv = 3 ∧ x.2.1 = wNot ∨ lv = 7 ∧ x.2.1 = wMinus
  · simp only [if_pos h]
    exact Loc.bind (loc_opens (by rcases h with ⟨_, h⟩ | ⟨_, h⟩ <;> rw [h] <;> decide) o) fun _ => Loc.bind (hE _ _ _ (by omega)) fun n => Loc.pure _
  · simp only [if_neg h]
    by_cases h8 : lv = 8
    · simp only [if_pos h8]; exact loc_prim hE o m
    · simp only [if_neg h8]; exact Loc.bind (hE _ _ _ (by omega)) fun n => loc_loop hE hlv m n
/-- The expressions' parser; the level 0 is not one. -/
theorem loc_expr : ∀ (f lv o m : Nat), 1 ≤ lv → Loc m (exprP f lv o)
  | 0, _, _, _, _ => Loc.fail 0
  | f + 1, lv, o, m, h => loc_step (fun lv o m h => loc_expr f lv o m h) lv o m h
theorem loc_part {α : Type} {m : Nat} {w : List UInt8} (hw : w ≠ []) (d : α) {rd : List Tk → PR α} (h : ∀ m, Loc m rd) : Loc m (partP w d rd) :=
  Loc.eat (fun x => x.2.1 = w) (fun _ h => .inl (by rw [h]; exact hw)) (q := fun _ r => (rd r).bind fun x r => (mustP wSemi r).bind fun _ r => .ok x r) (p := fun r => PR.ok d r)
    (fun _ _ _ _ => Loc.bind (h _) fun _ => Loc.bind (loc_must (by decide)) fun _ => Loc.pure _) (Loc.pure d)
/-- A parser that ends behind a token that it names: what follows is not looked at. -/
def LocS {α : Type} (m : Nat) (p : List Tk → PR α) : Prop := ∀ l v r, l.length ≤ m → p l = .ok v r → ∃ pre, l = pre ++ r ∧ pre ≠ [] ∧ (∀ t ∈ pre, NE t) ∧ ∀ pre' r', pre'.map tri = pre.map tri → p (pre' ++ r') = .ok v r'
theorem LocS.bind {α β : Type} {m : Nat} {p : List Tk → PR α} {f : α → List Tk → PR β} (hp : Loc m p) (hf : ∀ v, LocS m (f v)) : LocS m (fun r => (p r).bind f) := fun l v r hl h => by
  obtain ⟨pre, h1, h2, h3⟩ := hp l hl
  cases hp1 : p l with
  | bad r1 e =>
    simp only [hp1, PR.bind_bad] at h
    cases h
  | ok v1 r1 =>
    simp only [hp1, PR.bind_ok] at h
    rw [hp1] at h1 h3
    have h1' : l = pre ++ r1 := h1
    have hr : r1.length ≤ m := by rw [h1'] at hl; simp at hl; omega
    obtain ⟨pre2, g1, g2, g3, g4⟩ := hf v1 r1 v r hr h
    refine ⟨pre ++ pre2, by rw [h1', g1, List.append_assoc], by simp [g2], fun t ht => ?_, fun pre' r' a => ?_⟩
    · rcases List.mem_append.1 ht with ht | ht
      · exact h2 t ht
      · exact g3 t ht
    · rw [List.map_append] at a
      obtain ⟨x, y, rfl, hx, hy⟩ := List.map_eq_append_iff.1 a
      have h5 : tri (hd (y ++ r')) = tri (hd r1) := by
        rw [g1]
        cases pre2 with
        | nil => exact absurd rfl g2
        | cons t2 pre2 =>
          cases y with
          | nil => simp at hy
          | cons t3 y =>
            simp only [List.map_cons, List.cons.injEq] at hy
            exact hy.1
      show (p (x ++ y ++ r')).bind f = _
      rw [List.append_assoc, h3 x (y ++ r') hx h5]
      exact g4 y r' hy
theorem locS_must {α : Type} {m : Nat} {s : List UInt8} (hs : s ≠ []) (v : α) : LocS m (fun r => (mustP s r).bind fun _ r => .ok v r) := fun l v' r hl h => by
  simp only [mustP] at h
  split at h
  · rename_i h1
    simp only [PR.bind_ok, PR.ok.injEq] at h
    obtain ⟨rfl, rfl⟩ := h
    cases l with
    | nil => exact absurd h1.symm hs
    | cons t l =>
      have h1' : t.tx = s := h1
      refine ⟨[t], rfl, by simp, fun x hx => ?_, fun pre' r' a => ?_⟩
      · obtain rfl : x = t := by simpa using hx
        exact .inl (by rw [h1']; exact hs)
      · cases pre' with
        | nil => simp at a
        | cons t' pre' =>
          simp only [List.map_cons, List.map_nil, List.cons.injEq, List.map_eq_nil_iff] at a
          obtain ⟨a1, rfl⟩ := a
          have h2 : t'.tx = s := (argsN_tri a1).trans h1'
          show (mustP s (t' :: r')).bind _ = _
          unfold mustP
          rw [if_pos (show (hd (t' :: r')).tx = s from h2)]
          rfl
  · cases h
theorem locS_rule {m : Nat} {E : List Tk → PR Tr} (hE : ∀ m, Loc m E) : LocS m (ruleP E) := by
  unfold ruleP
  refine LocS.bind (loc_must (by decide)) fun _ => LocS.bind loc_name fun nm => LocS.bind (loc_must (by decide)) fun _ => ?_
  have h : ∀ d : Int, LocS m (fun r => (mustP wBrace r).bind fun _ r => (mustP wOn r).bind fun _ r => (nameP r).bind fun on_ r => (mustP wSemi r).bind fun _ r => (partP wIf trTrue E r).bind fun i r =>
      (mustP wDue r).bind fun _ r => (E r).bind fun due r => (mustP wSemi r).bind fun _ r => (partP wUnless [] nameP r).bind fun u r => (partP wElse [] nameP r).bind fun e r =>
        (mustP wBraceE r).bind fun _ r => PR.ok (⟨nm, d, on_, i, due, u, e⟩ : Rl) r) := fun d =>
    LocS.bind (loc_must (by decide)) fun _ => LocS.bind (loc_must (by decide)) fun _ => LocS.bind loc_name fun _ => LocS.bind (loc_must (by decide)) fun _ => LocS.bind (loc_part (by decide) _ hE) fun _ =>
      LocS.bind (loc_must (by decide)) fun _ => LocS.bind (hE _) fun _ => LocS.bind (loc_must (by decide)) fun _ => LocS.bind (loc_part (by decide) _ fun _ => loc_name) fun _ => LocS.bind (loc_part (by decide) _ fun _ => loc_name) fun _ => locS_must (by decide) _
  have e : (fun r => (tokP 3 r).bind fun d r => (mustP wBrace r).bind fun _ r => (mustP wOn r).bind fun _ r => (nameP r).bind fun on_ r => (mustP wSemi r).bind fun _ r => (partP wIf trTrue E r).bind fun i r =>
      (mustP wDue r).bind fun _ r => (E r).bind fun due r => (mustP wSemi r).bind fun _ r => (partP wUnless [] nameP r).bind fun u r => (partP wElse [] nameP r).bind fun e r =>
        (mustP wBraceE r).bind fun _ r => PR.ok (⟨nm, d.nm, on_, i, due, u, e⟩ : Rl) r) = fun r => ((tokP 3 r).bind fun d r => PR.ok d.nm r).bind fun d r => (mustP wBrace r).bind fun _ r => (mustP wOn r).bind fun _ r => (nameP r).bind fun on_ r => (mustP wSemi r).bind fun _ r => (partP wIf trTrue E r).bind fun i r =>
      (mustP wDue r).bind fun _ r => (E r).bind fun due r => (mustP wSemi r).bind fun _ r => (partP wUnless [] nameP r).bind fun u r => (partP wElse [] nameP r).bind fun e r =>
        (mustP wBraceE r).bind fun _ r => PR.ok (⟨nm, d, on_, i, due, u, e⟩ : Rl) r := by
    funext r
    cases tokP 3 r <;> rfl
  rw [e]
  exact LocS.bind (loc_tok (by decide) (fun t t' h => by rw [show t.nm = t'.nm from congrArg (fun x => x.2.2) h]) fun t => Loc.pure _) h
theorem loc_rule {m : Nat} {E : List Tk → PR Tr} (hE : ∀ m, Loc m E) : Loc m (ruleP E) := by
  unfold ruleP
  refine Loc.bind (loc_must (by decide)) fun _ => Loc.bind loc_name fun nm => Loc.bind (loc_must (by decide)) fun _ => ?_
  refine loc_tok (by decide) (fun t t' h => by rw [show t.nm = t'.nm from congrArg (fun x => x.2.2) h]) fun t => ?_
  exact Loc.bind (loc_must (by decide)) fun _ => Loc.bind (loc_must (by decide)) fun _ => Loc.bind loc_name fun _ => Loc.bind (loc_must (by decide)) fun _ => Loc.bind (loc_part (by decide) _ hE) fun _ =>
      Loc.bind (loc_must (by decide)) fun _ => Loc.bind (hE _) fun _ => Loc.bind (loc_must (by decide)) fun _ => Loc.bind (loc_part (by decide) _ fun _ => loc_name) fun _ => Loc.bind (loc_part (by decide) _ fun _ => loc_name) fun _ => Loc.bind (loc_must (by decide)) fun _ => Loc.pure _
theorem rules_fuel {E : List Tk → PR Tr} (hE : ∀ m, Loc m E) : ∀ (g g' : Nat) (l : List Rl) (r : List Tk), r.length ≤ g → r.length ≤ g' → rulesP E g l r = rulesP E g' l r := by
  intro g
  induction g with
  | zero =>
    intro g' l r h _
    obtain rfl : r = [] := List.length_eq_zero_iff.1 (by omega)
    cases g' with
    | zero => rfl
    | succ g' => rw [rulesP, rulesP, if_pos (show (hd []).kd = 0 from rfl)]
  | succ g ih =>
    intro g' l r h h'
    cases g' with
    | zero =>
      obtain rfl : r = [] := List.length_eq_zero_iff.1 (by omega)
      rw [rulesP, rulesP, if_pos (show (hd []).kd = 0 from rfl)]
    | succ g' =>
      rw [rulesP, rulesP]
      by_cases h0 : (hd r).kd = 0
      · rw [if_pos h0, if_pos h0]
      · rw [if_neg h0, if_neg h0]
        cases h3 : ruleP E r with
        | bad r2 e => rfl
        | ok x r2 =>
          simp only [PR.bind_ok]
          obtain ⟨pre, h4, h5, _⟩ := locS_rule (m := r.length) hE r x r2 (Nat.le_refl _) h3
          have h6 := congrArg List.length h4
          have h7 := List.length_pos_iff.2 h5
          rw [List.length_append] at h6
          exact ih g' _ _ (by omega) (by omega)
def RP (E : List Tk → PR Tr) (l : List Rl) (r : List Tk) : PR (List Rl) := rulesP E r.length l r
theorem RP_eq {E : List Tk → PR Tr} (hE : ∀ m, Loc m E) (l : List Rl) (r : List Tk) : RP E l r = if (hd r).kd = 0 then .ok l r else (ruleP E r).bind fun x r2 => RP E (l ++ [x]) r2 := by
  unfold RP
  rw [rules_fuel hE r.length (r.length + 1) l r (Nat.le_refl _) (Nat.le_succ _), rulesP]
  by_cases h0 : (hd r).kd = 0
  · rw [if_pos h0, if_pos h0]
  · rw [if_neg h0, if_neg h0]
    cases h3 : ruleP E r with
    | bad r2 e => rfl
    | ok x r2 =>
      simp only [PR.bind_ok]
      obtain ⟨pre, h4, h5, _⟩ := locS_rule (m := r.length) hE r x r2 (Nat.le_refl _) h3
      have h6 := congrArg List.length h4
      rw [List.length_append] at h6
      exact rules_fuel hE _ _ _ _ (by omega) (Nat.le_refl _)
theorem loc_rules {E : List Tk → PR Tr} (hE : ∀ m, Loc m E) : ∀ (g m : Nat) (l : List Rl), Loc m (rulesP E g l)
  | 0, _, l => Loc.pure l
  | g + 1, m, l => Loc.cond (fun x => x.1 = 0) (Loc.pure l) (Loc.bind (loc_rule hE) fun x => loc_rules hE g m (l ++ [x]))
end Go.Proofs.YtnpenepdechkjaaGreatDoor

/- What the parser's trees are like: their root's kind is never 0. -/
namespace Go.Proofs.YtnpenepdechkjaaGreatDoor
open Go

def trK : Tr → Int
  | .nd k _ _ _ => k
theorem PR.bind_inv {α β : Type} {x : PR α} {f : α → List Tk → PR β} {v : β} {r : List Tk} (h : x.bind f = .ok v r) : ∃ a r1, x = .ok a r1 ∧ f a r1 = .ok v r := by
  cases x with
  | ok a r1 => exact ⟨a, r1, rfl, h⟩
  | bad r1 e => cases h
theorem PR.ok_inj {α : Type} {a b : α} {r s : List Tk} (h : PR.ok a r = PR.ok b s) : a = b ∧ r = s := by injection h with h1 h2; exact ⟨h1, h2⟩
theorem join_kind (lv : Nat) (op : List UInt8) (a b : Tr) (r : List Tk) : trK (joinP lv op a b r).1 ≠ 0 := by
  unfold joinP
  split
  · simp only [trK]; split <;> decide
  · simp [trK]
theorem loop_kind (E : Nat → Nat → List Tk → PR Tr) (lv o : Nat) : ∀ (g : Nat) (n : Tr) (r : List Tk) (t : Tr) (r' : List Tk), trK n ≠ 0 → loopP E lv o g n r = .ok t r' → trK t ≠ 0
  | 0, n, r, t, r', hn, h => by
    rw [loopP] at h
    obtain ⟨rfl, _⟩ := PR.ok_inj h
    exact hn
  | g + 1, n, r, t, r', hn, h => by
    rw [loopP] at h
    split at h
    · obtain ⟨b, r2, _, h2⟩ := PR.bind_inv h
      split at h2
      · obtain ⟨rfl, _⟩ := PR.ok_inj h2
        exact join_kind _ _ _ _ _
      · exact loop_kind E lv o g _ _ _ _ (join_kind _ _ _ _ _) h2
    · obtain ⟨rfl, _⟩ := PR.ok_inj h
      exact hn
theorem call_kind {E : Nat → Nat → List Tk → PR Tr} {o : Nat} {r : List Tk} {t : Tr} {r' : List Tk} (h : callP E o r = .ok t r') : trK t ≠ 0 := by
  unfold callP at h
  obtain ⟨x, r1, _, h⟩ := PR.bind_inv h
  obtain ⟨_, r2, _, h⟩ := PR.bind_inv h
  obtain ⟨a, r3, _, h⟩ := PR.bind_inv h
  split at h
  · obtain ⟨_, r4, _, h⟩ := PR.bind_inv h
    obtain ⟨rfl, _⟩ := PR.ok_inj h
    simp [trK]
  · obtain ⟨_, r4, _, h⟩ := PR.bind_inv h
    obtain ⟨_, r5, _, h⟩ := PR.bind_inv h
    obtain ⟨_, r6, _, h⟩ := PR.bind_inv h
    obtain ⟨rfl, _⟩ := PR.ok_inj h
    simp [trK]
theorem choice_kind {E : Nat → Nat → List Tk → PR Tr} {o : Nat} {r : List Tk} {t : Tr} {r' : List Tk} (h : choiceP E o r = .ok t r') : trK t ≠ 0 := by
  unfold choiceP at h
  obtain ⟨_, r1, _, h⟩ := PR.bind_inv h
  obtain ⟨_, r1, _, h⟩ := PR.bind_inv h
  obtain ⟨_, r1, _, h⟩ := PR.bind_inv h
  obtain ⟨_, r1, _, h⟩ := PR.bind_inv h
  obtain ⟨_, r1, _, h⟩ := PR.bind_inv h
  obtain ⟨_, r1, _, h⟩ := PR.bind_inv h
  obtain ⟨_, r1, _, h⟩ := PR.bind_inv h
  obtain ⟨rfl, _⟩ := PR.ok_inj h
  simp [trK]
theorem prim_kind {E : Nat → Nat → List Tk → PR Tr} (hE : ∀ lv o r t r', E lv o r = .ok t r' → trK t ≠ 0) {o : Nat} {r : List Tk} {t : Tr} {r' : List Tk} (h : primP E o r = .ok t r') : trK t ≠ 0 := by
  unfold primP at h
  split at h
  · obtain ⟨rfl, _⟩ := PR.ok_inj h; simp [trK]
  split at h
  · obtain ⟨rfl, _⟩ := PR.ok_inj h; simp [trK]
  split at h
  · obtain ⟨rfl, _⟩ := PR.ok_inj h; simp [trK]
  split at h
  · obtain ⟨rfl, _⟩ := PR.ok_inj h; simp [trK]
  split at h
  · obtain ⟨_, r1, _, h⟩ := PR.bind_inv h
    obtain ⟨n, r2, h2, h⟩ := PR.bind_inv h
    obtain ⟨_, r3, _, h⟩ := PR.bind_inv h
    obtain ⟨rfl, _⟩ := PR.ok_inj h
    exact hE _ _ _ _ _ h2
  split at h
  · exact choice_kind h
  split at h
  · exact call_kind h
  split at h
  · obtain ⟨rfl, _⟩ := PR.ok_inj h; simp [trK]
  · cases h
theorem expr_kind : ∀ (f lv o : Nat) (r : List Tk) (t : Tr) (r' : List Tk), exprP f lv o r = .ok t r' → trK t ≠ 0
  | 0, _, _, _, _, _, h => by cases h
  | f + 1, lv, o, r, t, r', h => by
    rw [exprP, stepP] at h
    split at h
    · obtain ⟨_, r1, _, h⟩ := PR.bind_inv h
      obtain ⟨n, r2, _, h⟩ := PR.bind_inv h
      obtain ⟨rfl, _⟩ := PR.ok_inj h
      simp [trK]
    split at h
    · exact prim_kind (fun lv o r t r' => expr_kind f lv o r t r') h
    · obtain ⟨n, r2, h1, h⟩ := PR.bind_inv h
      exact loop_kind _ _ _ _ _ _ _ _ (expr_kind f _ _ _ _ _ h1) h
/-- The word of a part is there: it is read as the part. -/
theorem part_on {α β : Type} {w : List UInt8} {r : List Tk} (h : (hd r).tx = w) (d : α) (rd : List Tk → PR α) (K : α → List Tk → PR β) :
    ((mustP w r).bind fun _ r => (rd r).bind fun x r => (mustP wSemi r).bind fun _ r => K x r) = (partP w d rd r).bind K := by
  unfold partP mustP
  rw [if_pos h, if_pos h, PR.bind_ok]
  cases rd r.tail with
  | bad r e => rfl
  | ok x r =>
    simp only [PR.bind_ok]
    split <;> rfl
theorem part_if {E : List Tk → PR Tr} (hE : ∀ r t r', E r = .ok t r' → trK t ≠ 0) (d d' : Tr) (hd0 : trK d = 0) (w : List UInt8) (r : List Tk) :
    (∀ t r', partP w d E r = .ok t r' → partP w d' E r = .ok (if trK t = 0 then d' else t) r') ∧ ∀ r' e, partP w d E r = .bad r' e → partP w d' E r = .bad r' e := by
  unfold partP
  by_cases h : (hd r).tx = w
  · rw [if_pos h, if_pos h]
    refine ⟨fun t r' h1 => ?_, fun r' e h1 => h1⟩
    have h2 := h1
    obtain ⟨x, r1, h3, h4⟩ := PR.bind_inv h1
    obtain ⟨_, r2, h5, h6⟩ := PR.bind_inv h4
    obtain ⟨rfl, rfl⟩ := PR.ok_inj h6
    rw [if_neg (hE _ _ _ h3)]
    exact h2
  · rw [if_neg h, if_neg h]
    refine ⟨fun t r' h1 => ?_, fun r' e h1 => by cases h1⟩
    obtain ⟨rfl, rfl⟩ := PR.ok_inj h1
    rw [if_pos hd0]
end Go.Proofs.YtnpenepdechkjaaGreatDoor
