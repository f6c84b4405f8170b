/- seal.selected and seal.Groups: walked. -/
import Derived.Test.YtdbnddmncbjobaaGreatDoorQbg
namespace Go.Proofs.YtdbnddmncbjobaaGreatDoor
section
open Go Go.RowKit
attribute [local go_sem] Oper.semAt_some

def seaCs (s : Sea) : List Value := [.int .i64 s.ent, .int .i64 s.ver, .int .i64 s.fr, .int .i64 s.un, .int .i64 s.gr]
def kSea : Lay Sea where
  sz := 5
  rep _ _ s cs := cs = seaCs s
  len h := by subst h; rfl
  one h := by subst h; intro u hu; simp only [seaCs, List.mem_cons, List.not_mem_nil, or_false] at hu; rcases hu with rfl | rfl | rfl | rfl | rfl <;> rfl
  keep h _ _ := h
  mono h _ := h
theorem info48 : (Tryz.prog.info? 48).map (fun i => (i.zero, i.size, i.bytes)) = some (some (Value.agg #[.int .i64 0, .int .i64 0, .int .i64 0, .int .i64 0, .int .i64 0]), 5, 40) := by kernel_rfl
theorem sea_at {W : World} {P : Nat → Prop} {A : Option Addr} {n : Nat} {xs : List Sea} (h : kSea.row W P A n xs) {i : Nat} {x : Sea} (hi : xs[i]? = some x) :
    ∃ b off, A = some ⟨b, off, none⟩ ∧ b < W.heap.size ∧ W.cell? ⟨b, off + i * 5, none⟩ = some (.int .i64 x.ent) ∧ W.cell? ⟨b, off + i * 5 + 1, none⟩ = some (.int .i64 x.ver) ∧ W.cell? ⟨b, off + i * 5 + 2, none⟩ = some (.int .i64 x.fr) ∧ W.cell? ⟨b, off + i * 5 + 3, none⟩ = some (.int .i64 x.un) ∧ W.cell? ⟨b, off + i * 5 + 4, none⟩ = some (.int .i64 x.gr) := by
  obtain ⟨b, off, cs, rfl, hb, _, hrep, hc⟩ := Lay.row_at h hi
  have e : cs = seaCs x := hrep
  subst e
  exact ⟨b, off, rfl, hb, hc 0 _ rfl, hc 1 _ rfl, hc 2 _ rfl, hc 3 _ rfl, hc 4 _ rfl⟩
set_option maxHeartbeats 4000000 in
set_option maxRecDepth 100000 in
theorem clo75 (X : World) (z1 z2 z3 : Nat) (e v k : Int) (s : Sea) (h1 : X.cell? ⟨z1, 0, none⟩ = some (.int .i64 e)) (h2 : X.cell? ⟨z2, 0, none⟩ = some (.int .i64 v)) (h3 : X.cell? ⟨z3, 0, none⟩ = some (.int .i64 k)) :
    Calls Tryz.prog 75 #[.agg #[.int .i64 s.ent, .int .i64 s.ver, .int .i64 s.fr, .int .i64 s.un, .int .i64 s.gr], .pointer (some ⟨z1, 0, none⟩), .pointer (some ⟨z2, 0, none⟩), .pointer (some ⟨z3, 0, none⟩)] X (fun z X' => z = .returned (.bool (covS s e v k)) ∧ Ext X X') := by
  obtain ⟨s0, s1, s2, s3, s4⟩ := s
  have hx : Ext X (X.alloc (.cells #[.int .i64 s0, .int .i64 s1, .int .i64 s2, .int .i64 s3, .int .i64 s4] 48)) := (Ext.refl X).alloc _
  have HX := Lib.hid hx
  obtain ⟨r, hr⟩ : ∃ r, covS ⟨s0, s1, s2, s3, s4⟩ e v k = r := ⟨_, rfl⟩
  rw [hr]
  unfold covS at hr
  simp only at hr
  have c1 := fun o => (((Ext.refl X).alloc o).cells.1 z1 0 (World.block_lt_of_cell? _ _ h1)).trans h1
  have c2 := fun o => (((Ext.refl X).alloc o).cells.1 z2 0 (World.block_lt_of_cell? _ _ h2)).trans h2
  have c3 := fun o => (((Ext.refl X).alloc o).cells.1 z3 0 (World.block_lt_of_cell? _ _ h3)).trans h3
  clear hx
  by_cases g1 : s0 = e
  · have b1 : (s0 == e) = true := by simpa using g1
    by_cases g2 : s1 = v
    · have b2 : (s1 == v) = true := by simpa using g2
      by_cases g3 : s2 ≤ k
      · have b3 : decide (s2 ≤ k) = true := by simpa using g3
        have HR := Lib.hid (show r = decide (k < s3) by rw [← hr]; simp [g1, g2, g3])
        clear hr g1 g2 g3
        go_enter Tryz.func75, Tryz.ntmps75
        go_wp2_with fail
        go_ret
        exact ⟨by rw [HR.out]; rfl, HX.out⟩
      · have b3 : decide (s2 ≤ k) = false := by simpa using g3
        have HR := Lib.hid (show r = false by rw [← hr]; simp [g1, g2, g3])
        clear hr g1 g2 g3
        go_enter Tryz.func75, Tryz.ntmps75
        go_wp2_with fail
        go_ret
        exact ⟨by rw [HR.out]; rfl, HX.out⟩
    · have b2 : (s1 == v) = false := by simpa using g2
      have HR := Lib.hid (show r = false by rw [← hr]; simp [g1, g2])
      clear hr g1 g2
      go_enter Tryz.func75, Tryz.ntmps75
      go_wp2_with fail
      go_ret
      exact ⟨by rw [HR.out]; rfl, HX.out⟩
  · have b1 : (s0 == e) = false := by simpa using g1
    have HR := Lib.hid (show r = false by rw [← hr]; simp [g1])
    clear hr g1
    go_enter Tryz.func75, Tryz.ntmps75
    go_wp2_with fail
    go_ret
    exact ⟨by rw [HR.out]; rfl, HX.out⟩
def SeR (w : World) (p : Sea → Bool) (l : List Sea) (s5 s10 : Value) (W : World) : Prop := ∃ (i : Nat) (A : Option Addr) (c : Nat), i ≤ l.length ∧ s10 = .int .i64 i ∧ s5 = .slice A ((l.take i).filter p).length c ∧ kSea.own 48 W w.heap.size (fun _ => False) s5 ((l.take i).filter p) ∧ Ext w W
theorem sea_app {w X : World} {A : Option Addr} {m c : Nat} {xs : List Sea} (h : kSea.own 48 X w.heap.size (fun _ => False) (.slice A m c) xs) (hm : m = xs.length) (hx : Ext w X) (x : Sea) (hl : m ≤ 1000000) :
    ∃ A' c' w', (Builtin.append_ #[28, 28] 28 #[.slice A m c, .slice (some ⟨X.heap.size, 0, none⟩) 1 1]).run Tryz.prog (X.alloc (.cells #[.int .i64 x.ent, .int .i64 x.ver, .int .i64 x.fr, .int .i64 x.un, .int .i64 x.gr] 48)) = .ok (.slice A' (m + 1) c') w' ∧ kSea.own 48 w' w.heap.size (fun _ => False) (.slice A' (m + 1) c') (xs ++ [x]) ∧ Ext w w' := by
  subst hm
  obtain ⟨A', c', w', r1, r2, r3, _⟩ := own_app1 (k := kSea) (Pr := Tryz.prog) (t := 28) (e := 48) Tryz.underlying28 info48 rfl (by decide) (by omega) h hx.lt (cs := #[.int .i64 x.ent, .int .i64 x.ver, .int .i64 x.fr, .int .i64 x.un, .int .i64 x.gr]) (T := 48) (x := x) rfl 1 (by omega)
  exact ⟨A', c', w', r1, r2, Below.trans hx (r3 _ (Nat.le_refl _))⟩
set_option maxHeartbeats 4000000 in
set_option maxRecDepth 100000 in
theorem selected_any (P : Nat → Prop) (w : World) (A : Option Addr) (n c : Nat) (l : List Sea) (p : Sea → Bool) (p1 p2 p3 : Value) (h : kSea.row w P A n l) (hn : n ≤ 1000000)
    (hc : ∀ X (s : Sea), Ext w X → Calls Tryz.prog 75 #[.agg #[.int .i64 s.ent, .int .i64 s.ver, .int .i64 s.fr, .int .i64 s.un, .int .i64 s.gr], p1, p2, p3] X (fun z X' => z = .returned (.bool (p s)) ∧ Ext X X')) :
    Calls Tryz.prog 74 #[.slice A n c, .func (.func 75) #[] #[p1, p2, p3]] w fun e w' => ∃ A' c', e = .returned (.slice A' (l.filter p).length c') ∧ kSea.row w' (fun j => w.heap.size ≤ j) A' (l.filter p).length (l.filter p) ∧ Ext w w' := by
  have HL := Lib.hid (Lay.row_len h)
  have HR := Lib.hid h
  have HC := Lib.hid hc
  clear h hc
  go_enter Tryz.func74, Tryz.ntmps74
  go_wp2_with fail
  go_loopw [5, 10] (fun s5 s10 W => SeR w p l s5 s10 W) (fun _ s10 _ => toM n s10)
  case atStart => exact ⟨0, none, 0, by omega, rfl, rfl, Lay.own_nil _ _ _ _ _, Ext.refl _⟩
  case round =>
    obtain ⟨i, A1, c1, hi, rfl, rfl, ho, hx⟩ := hrel
    rw [← HL.out] at hi
    have HO := Lib.hid ho
    have HX := Lib.hid hx
    clear ho hx
    have hw1 : IntKind.i64.wrap ((i : Int) + 1) = (i : Int) + 1 := IntWalk.i64_in _ (by omega)
    have hml : ((l.take i).filter p).length ≤ i := Nat.le_trans (List.length_filter_le _ _) (by rw [List.length_take]; exact Nat.min_le_left _ _)
    obtain ⟨m, hm⟩ : ∃ m, ((l.take i).filter p).length = m := ⟨_, rfl⟩
    rw [hm] at HO hml ⊢
    have HM := Lib.hid hm.symm
    clear hm
    by_cases hlt : i < n
    case neg =>
      have hni : ¬ ((i : Int) < (n : Int)) := by omega
      have HF := Lib.hid (show l.take i = l from List.take_of_length_le (by have := HL.out; omega))
      go_wp2_with fail
      go_ret
      have ho9 := HO.out
      have hm9 := HM.out
      rw [HF.out] at ho9 hm9
      subst hm9
      obtain ⟨_, hr9⟩ := own_rowQ ho9
      exact ⟨A1, ⟨c1, rfl⟩, Lay.row_mono hr9 fun j hj _ => hj.elim False.elim id, HX.out⟩
    have hI : (i : Int) < (n : Int) := by omega
    obtain ⟨s, hs⟩ : ∃ s, l[i]? = some s := ⟨_, List.getElem?_eq_getElem (by have := HL.out; omega)⟩
    obtain ⟨b, off, rfl, hb, a0, a1, a2, a3, a4⟩ := sea_at (Lay.row_ext HR.out HX.out) hs
    have y0 := fun o => (((Ext.refl wr).alloc o).cells.1 b _ hb).trans a0
    have y1 := fun o => (((Ext.refl wr).alloc o).cells.1 b _ hb).trans a1
    have y2 := fun o => (((Ext.refl wr).alloc o).cells.1 b _ hb).trans a2
    have y3 := fun o => (((Ext.refl wr).alloc o).cells.1 b _ hb).trans a3
    have y4 := fun o => (((Ext.refl wr).alloc o).cells.1 b _ hb).trans a4
    obtain ⟨z, hz⟩ : ∃ z, wr.heap.size = z := ⟨_, rfl⟩
    obtain ⟨w2, hw2⟩ : ∃ w2, wr.alloc (.cells #[.int .i64 s.ent, .int .i64 s.ver, .int .i64 s.fr, .int .i64 s.un, .int .i64 s.gr] 48) = w2 := ⟨_, rfl⟩
    have hx2 : Ext wr w2 := by rw [← hw2]; exact (Ext.refl wr).alloc _
    have hB : w2.heap[z]? = some (.cells #[.int .i64 s.ent, .int .i64 s.ver, .int .i64 s.fr, .int .i64 s.un, .int .i64 s.gr] 48 (0, 0)) := by rw [← hw2, ← hz]; exact heap_alloc_new _ _
    have HB := Lib.hid hB
    have HX2 := Lib.hid (HX.out.trans hx2)
    have HXW := Lib.hid hx2
    have e0 := cell_of hB (i := 0) rfl
    have e1 := cell_of hB (i := 1) rfl
    have e2 := cell_of hB (i := 2) rfl
    have e3 := cell_of hB (i := 3) rfl
    have e4 := cell_of hB (i := 4) rfl
    have HCC := Lib.hid (HC.out w2 s HX2.out)
    have hts : l.take (i + 1) = l.take i ++ [s] := by rw [List.take_add_one, hs]; rfl
    cases hp : p s with
    | false =>
      have HST := Lib.hid (show (l.take (i + 1)).filter p = (l.take i).filter p by rw [hts, List.filter_append]; simp [hp])
      rw [hp] at HCC
      clear hts hp hs hx2 hB
      go_wp2_with (first | (go_at_call 75; refine (HCC.out).mono ?_; rintro e w3 ⟨rfl, hx3⟩; have HX3 := Lib.hid hx3; clear hx3))
      go_roundw
      case rel => exact ⟨i + 1, A1, c1, by have := HL.out; omega, by go_num, by rw [HST.out, ← HM.out], by rw [HST.out]; exact Lay.own_ext HO.out (HXW.out.trans HX3.out), HX2.out.trans HX3.out⟩
      case measure => simp only [toM]; omega
    | true =>
      have HST := Lib.hid (show (l.take (i + 1)).filter p = (l.take i).filter p ++ [s] by rw [hts, List.filter_append]; simp [hp])
      rw [hp] at HCC
      clear hts hp hs hx2 hB e0 e1 e2 e3 e4
      have e0 := cell_of HB.out (i := 0) rfl
      have e1 := cell_of HB.out (i := 1) rfl
      have e2 := cell_of HB.out (i := 2) rfl
      have e3 := cell_of HB.out (i := 3) rfl
      have e4 := cell_of HB.out (i := 4) rfl
      go_upto_region 6 with (first | (go_at_call 75; refine (HCC.out).mono ?_; rintro e w3 ⟨rfl, hx3⟩; have HX3 := Lib.hid hx3; clear hx3))
      clear e0 e1 e2 e3 e4
      have hB3 := (HX3.out.block _ (lt_of_block HB.out)).trans HB.out
      have e0 := cell_of hB3 (i := 0) rfl
      have e1 := cell_of hB3 (i := 1) rfl
      have e2 := cell_of hB3 (i := 2) rfl
      have e3 := cell_of hB3 (i := 3) rfl
      have e4 := cell_of hB3 (i := 4) rfl
      obtain ⟨A', c', w4, hrun, ho4, hx4⟩ := sea_app (Lay.own_ext HO.out (HXW.out.trans HX3.out)) HM.out (HX2.out.trans HX3.out) s (by omega)
      have RUN := Lib.hid hrun
      have HO4 := Lib.hid ho4
      have HX4 := Lib.hid hx4
      clear hrun ho4 hx4 hB3
      go_wp2_with (first | (at_builtin; refine wpList_append_run (s := .tmp 17) (x := .tmp 19) RUN.out rfl rfl rfl rfl rfl ?_))
      go_roundw
      case rel => exact ⟨i + 1, A', c', by have := HL.out; omega, by go_num, by rw [HST.out, List.length_append, ← HM.out]; rfl, by rw [HST.out]; exact HO4.out, HX4.out⟩
      case measure => simp only [toM]; omega
theorem or_pos {g : Int} {r : Nat} (h0 : 0 ≤ g) (h1 : g ≤ 65535) (hr : r ≤ 15) : ∃ g' : Int, 0 < g' ∧ g' ≤ 65535 ∧ bits BinOp.or IntKind.i64 g (2 ^ r) = g' := by
  obtain ⟨a, rfl⟩ : ∃ a : Nat, g = a := ⟨g.toNat, by omega⟩
  have ha : a < 2 ^ 16 := by omega
  have hb : 2 ^ r < 2 ^ 16 := Nat.pow_lt_pow_right (by omega) (by omega)
  have e1 : (BitVec.ofInt 64 (a : Int)).toNat = a := by
    rw [BitVec.ofInt_natCast, BitVec.toNat_ofNat]; exact Nat.mod_eq_of_lt (by omega)
  have e2 : (BitVec.ofInt 64 (2 ^ r : Int)).toNat = 2 ^ r := by
    rw [show (2 ^ r : Int) = ((2 ^ r : Nat) : Int) by simp, BitVec.ofInt_natCast, BitVec.toNat_ofNat]; exact Nat.mod_eq_of_lt (by omega)
  have e3 : (BitVec.ofInt 64 (a : Int) ||| BitVec.ofInt 64 (2 ^ r)).toNat = a ||| 2 ^ r := by rw [BitVec.toNat_or, e1, e2]
  have h3 : a ||| 2 ^ r < 2 ^ 16 := Nat.or_lt_two_pow ha hb
  have h4 : 2 ^ r ≤ a ||| 2 ^ r := Nat.right_le_or
  have h5 : 0 < 2 ^ r := Nat.pow_pos (by omega)
  refine ⟨((a ||| 2 ^ r : Nat) : Int), by omega, by omega, ?_⟩
  show IntKind.i64.wrap (((BitVec.ofInt 64 (a : Int) ||| BitVec.ofInt 64 (2 ^ r)).toNat : Nat) : Int) = _
  rw [e3]
  exact IntWalk.i64_in _ (by omega)
def GrR (w : World) (l : List Sea) (s9 s16 : Value) (W : World) : Prop := ∃ (i : Nat) (g : Int), i ≤ l.length ∧ s16 = .int .i64 i ∧ s9 = .int .i64 g ∧ 0 ≤ g ∧ g ≤ 65535 ∧ (g = 0 ↔ i = 0) ∧ Ext w W
set_option maxHeartbeats 4000000 in
set_option maxRecDepth 100000 in
theorem groups_any (P : Nat → Prop) (w : World) (A : Option Addr) (n c : Nat) (l : List Sea) (e v k : Int) (h : kSea.row w P A n l) (hn : n ≤ 1000000) (hg : ∀ s ∈ l, 0 ≤ s.gr ∧ s.gr ≤ 15) :
    Calls Tryz.prog 34 #[.slice A n c, .int .i64 e, .int .i64 v, .int .i64 k] w fun z w' => ∃ g : Int, z = .returned (.int .i64 g) ∧ (g = 0 ↔ seald l e v k = false) ∧ Ext w w' := by
  obtain ⟨b, hb⟩ : ∃ b, w.heap.size = b := ⟨_, rfl⟩
  obtain ⟨w1, hw1⟩ : ∃ w1, ((w.alloc (.cells #[.int .i64 e] 3)).alloc (.cells #[.int .i64 v] 3)).alloc (.cells #[.int .i64 k] 3) = w1 := ⟨_, rfl⟩
  have hx1 : Ext w w1 := by rw [← hw1]; exact (((Ext.refl w).alloc _).alloc _).alloc _
  have hB0 : w1.heap[b]? = some (.cells #[.int .i64 e] 3 (0, 0)) := by
    rw [← hw1, ← hb, heap_alloc_old _ _ _ (by simp; omega), heap_alloc_old _ _ _ (by simp)]; exact heap_alloc_new _ _
  have hB1 : w1.heap[b + 1]? = some (.cells #[.int .i64 v] 3 (0, 0)) := by
    rw [← hw1, ← hb, heap_alloc_old _ _ _ (by simp)]; exact heap_alloc_at _ _ _ _ (by simp)
  have hB2 : w1.heap[b + 1 + 1]? = some (.cells #[.int .i64 k] 3 (0, 0)) := by
    rw [← hw1, ← hb]; exact heap_alloc_at _ _ _ _ (by simp)
  have HSE := Lib.hid (selected_any P w1 A n c l (fun s => covS s e v k) (.pointer (some ⟨b, 0, none⟩)) (.pointer (some ⟨b + 1, 0, none⟩)) (.pointer (some ⟨b + 1 + 1, 0, none⟩)) (Lay.row_ext h hx1) hn fun X s hX => clo75 X b (b + 1) (b + 1 + 1) e v k s (cell_of ((hX.block _ (lt_of_block hB0)).trans hB0) rfl) (cell_of ((hX.block _ (lt_of_block hB1)).trans hB1) rfl) (cell_of ((hX.block _ (lt_of_block hB2)).trans hB2) rfl))
  have HX1 := Lib.hid hx1
  obtain ⟨F, hF⟩ : ∃ F, (l.filter fun s => covS s e v k) = F := ⟨_, rfl⟩
  have HFG := Lib.hid (show ∀ s ∈ F, 0 ≤ s.gr ∧ s.gr ≤ 15 by rw [← hF]; exact fun s hs => hg s (List.mem_filter.1 hs).1)
  have HFS := Lib.hid (show seald l e v k = false ↔ F.length = 0 by
    rw [← hF, List.length_eq_zero_iff, List.filter_eq_nil_iff]
    unfold seald
    rw [List.any_eq_false])
  obtain ⟨m, hm⟩ : ∃ m, F.length = m := ⟨_, rfl⟩
  have hmn : m ≤ 1000000 := by rw [← hm, ← hF]; exact Nat.le_trans (List.length_filter_le _ _) (by rw [← Lay.row_len h]; exact hn)
  rw [hF, hm] at HSE
  rw [hm] at HFS
  have HM := Lib.hid hm
  clear h hg hx1 hB0 hB1 hB2 hF hm
  go_enter Tryz.func34, Tryz.ntmps34
  go_wp2_with (first | (go_at_call 74; refine (HSE.out).mono ?_; rintro z w2 ⟨A2, c2, rfl, hr2, hx2⟩; have HR2 := Lib.hid hr2; have HX2 := Lib.hid hx2; clear hr2 hx2))
  clear hw1 hb
  go_loopw [9, 16] (fun s9 s16 W => GrR w2 F s9 s16 W) (fun _ s16 _ => toM m s16)
  case atStart => exact ⟨0, 0, by omega, rfl, rfl, by omega, by omega, by simp, Ext.refl _⟩
  case round =>
    obtain ⟨i, g, hi, rfl, rfl, hg0, hg1, hgi, hx⟩ := hrel
    rw [HM.out] at hi
    have HX := Lib.hid hx
    have HGI := Lib.hid hgi
    clear hx hgi
    have hw1 : IntKind.i64.wrap ((i : Int) + 1) = (i : Int) + 1 := IntWalk.i64_in _ (by omega)
    by_cases hlt : i < m
    case neg =>
      have hni : ¬ ((i : Int) < (m : Int)) := by omega
      go_wp2_with fail
      go_ret
      exact ⟨g, rfl, by rw [HFS.out, HGI.out]; omega, HX1.out.trans (HX2.out.trans HX.out)⟩
    have hI : (i : Int) < (m : Int) := by omega
    obtain ⟨s, hs⟩ : ∃ s, F[i]? = some s := ⟨_, List.getElem?_eq_getElem (by have := HM.out; omega)⟩
    obtain ⟨hs0, hs1⟩ := HFG.out s (List.mem_of_getElem? hs)
    obtain ⟨r, hr⟩ : ∃ r : Nat, s.gr = r := ⟨s.gr.toNat, by omega⟩
    obtain ⟨g', hgp, hgl, hor⟩ := or_pos hg0 hg1 (r := r) (by omega)
    obtain ⟨b2, off, rfl, hb2, a0, a1, a2, a3, a4⟩ := sea_at (Lay.row_ext HR2.out HX.out) hs
    rw [hr] at a4
    have y0 := fun o => (((Ext.refl wr).alloc o).cells.1 b2 _ hb2).trans a0
    have y1 := fun o => (((Ext.refl wr).alloc o).cells.1 b2 _ hb2).trans a1
    have y2 := fun o => (((Ext.refl wr).alloc o).cells.1 b2 _ hb2).trans a2
    have y3 := fun o => (((Ext.refl wr).alloc o).cells.1 b2 _ hb2).trans a3
    have y4 := fun o => (((Ext.refl wr).alloc o).cells.1 b2 _ hb2).trans a4
    have hpw : IntKind.i64.wrap (2 ^ r) = 2 ^ r := by
      have h9 : (2 : Nat) ^ r < 2 ^ 16 := Nat.pow_lt_pow_right (by omega) (by omega)
      obtain ⟨q, hq⟩ : ∃ q : Nat, 2 ^ r = q := ⟨_, rfl⟩
      have e : ((2 : Int) ^ r) = (q : Int) := by rw [← hq]; simp
      rw [hq] at h9
      rw [e]
      exact IntWalk.i64_in _ (by omega)
    have hmin : min r 64 = r := by omega
    have hrn : ¬ ((r : Int) < 0) := by omega
    clear hs hs0 hs1 hr
    have HGP := Lib.hid (And.intro hgp hgl)
    clear hgp hgl
    go_wp2_with fail
    go_roundw
    case rel => exact ⟨i + 1, g', by have := HM.out; omega, by go_num, rfl, by have := HGP.out; omega, HGP.out.2, by have := HGP.out; omega, HX.out.alloc _⟩
    case measure => simp only [toM]; omega
end
section
open Go Go.RowKit

theorem around3_fn (n m : Int) (w : World) (h1 : -9223372036854775808 ≤ n) (h2 : n ≤ 9223372036854775807) (h3 : 1 ≤ m) (h4 : m ≤ 1000000000) :
    Calls Tryz.prog 17 #[.int .i64 n, .int .i64 m] w fun e w' => e = .returned (.int .i64 (arnd n m)) ∧ w = w' := by
  by_cases h : n < 0
  · have hb := neg_tmod_in n m h h3
    have HB := Lib.hid hb; clear hb
    have HE := Lib.hid (arnd_neg (m := m) h)
    go_enter Tryz.func17, Tryz.ntmps17
    go_wp2
    go_ret
    exact ⟨ret_int (by simpa using HE.out), rfl⟩
  · have HE := Lib.hid (arnd_pos (m := m) h)
    go_enter Tryz.func17, Tryz.ntmps17
    go_wp2
    go_ret
    exact ⟨ret_int (by simpa using HE.out), rfl⟩
set_option maxRecDepth 100000 in
theorem pick3_any (A : Option Addr) (c : Nat) (l : List Int) (i m : Nat) (w : World) (hm : 1 ≤ m) (hm2 : m ≤ 1000000000) (hb : ∀ n ∈ l, -9223372036854775808 ≤ n ∧ n ≤ 9223372036854775807) (h : SL icf 1 w A l.length l) :
    Calls Tryz.prog 65 #[.slice A l.length c, .int .i64 i, .int .i64 m] w fun e w' => e = .returned (.int .i64 (pkI l i m)) ∧ w = w' := by
  by_cases hil : i < l.length
  · obtain ⟨b, off, n, rfl, hbb, hn, hmem, hc⟩ := h.at hil
    have HP := Lib.hid (show pkI l i m = arnd n m by unfold pkI; rw [hn])
    have hc0 := hc 0 (.int .i64 n) rfl
    rw [Nat.mul_one, Nat.add_zero] at hc0
    have HA := Lib.hid (fun X => around3_fn n m X (hb n hmem).1 (hb n hmem).2 (by omega) (by omega))
    have hni : ¬ (l.length : Int) ≤ (i : Int) := by omega
    clear hc hn h
    go_enter Tryz.func65, Tryz.ntmps65
    go_wp2_with (first | (go_at_call 17; refine (HA.out _).mono ?_; rintro e w1 ⟨rfl, rfl⟩))
    go_ret
    exact ⟨ret_int (by rw [HP.out]), rfl⟩
  · have HP := Lib.hid (show pkI l i m = 0 by unfold pkI; rw [List.getElem?_eq_none (by omega)])
    have hni : (l.length : Int) ≤ (i : Int) := by omega
    clear h
    go_enter Tryz.func65, Tryz.ntmps65
    go_wp2
    go_ret
    exact ⟨ret_int (by rw [HP.out]), rfl⟩
end
end Go.Proofs.YtdbnddmncbjobaaGreatDoor