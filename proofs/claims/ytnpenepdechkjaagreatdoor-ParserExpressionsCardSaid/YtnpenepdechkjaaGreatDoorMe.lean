/- The production's parse. -/
import Derived.Test.YtnpenepdechkjaaGreatDoorMd
import Derived.Test.YtnpenepdechkjaaGreatDoorMa
import Derived.BigQuiet
import Derived.Test.YtnpenepdechkjaaGreatDoorMb
import Derived.Lib.ItoaNum
import Derived.Lib.Repeat
import Derived.Deep.RegionHeld3
import Derived.Lib.ItoaLen
import Derived.Lib.AppendIntMem
namespace Go.Proofs.YtnpenepdechkjaaGreatDoor
open Go Go.RowKit

/-- What the walks of parse ask of the world. -/
def Env13 (w : World) : Prop := EnvR w ∧ EnvL w ∧ ∃ m : Int, w.cell? ⟨0, 0, none⟩ = some (.int .i64 m)
theorem Env13.ext {w w' : World} (h : Env13 w) (hx : Ext w w') : Env13 w' := ⟨h.1.ext hx, h.2.1.ext hx, by
  obtain ⟨m, hm⟩ := h.2.2
  exact ⟨m, by rw [hx.cells.1 0 0 (block_lt_of_cell hm)]; exact hm⟩⟩
/-- How parse ends. -/
def PaPost {α : Type} (R : World → α → Value → Prop) (w : World) (y : α × Int × Int) (e : Ending) (W' : World) : Prop := ∃ v, e = .returned (.tuple #[v, .int .i64 y.2.1, .int .i64 y.2.2]) ∧ R W' y.1 v ∧ Ext w W'
/-- The four variables of parse: out, at, e, none. -/
structure PV (W : World) (n t : Nat) (v z : Array Value) (at_ e : Int) : Prop where
  b4 : W.heap[n]? = some (.cells v t (0, 0))
  b5 : W.heap[n + 1]? = some (.cells #[.int .i64 at_] 3 (0, 0))
  b6 : W.heap[n + 2]? = some (.cells #[.int .i64 e] 23 (0, 0))
  b7 : W.heap[n + 3]? = some (.cells z t (0, 0))
theorem PV.keep {W W' : World} {n t : Nat} {v z : Array Value} {at_ e : Int} (h : PV W n t v z at_ e) (hk : ∀ k, n ≤ k → k ≤ n + 3 → k < W.heap.size → W'.heap[k]? = W.heap[k]?) : PV W' n t v z at_ e :=
  ⟨(hk _ (by omega) (by omega) (lt_of_block h.b4)).trans h.b4, (hk _ (by omega) (by omega) (lt_of_block h.b5)).trans h.b5, (hk _ (by omega) (by omega) (lt_of_block h.b6)).trans h.b6, (hk _ (by omega) (by omega) (lt_of_block h.b7)).trans h.b7⟩
theorem PV.ext {W W' : World} {n t : Nat} {v z : Array Value} {at_ e : Int} (h : PV W n t v z at_ e) (hx : Ext W W') : PV W' n t v z at_ e := h.keep fun k _ _ hk => hx.block k hk
theorem PV.mv {W W' : World} {n t b : Nat} {v z : Array Value} {at_ e : Int} (h : PV W n t v z at_ e) (hm : Mv b W W') (hb : n + 3 < b) : PV W' n t v z at_ e := h.keep fun k _ h2 hk => hm.keep k (by omega) hk
theorem PV.set56 {W : World} {n t : Nat} {v z : Array Value} {at_ e : Int} (h : PV W n t v z at_ e) (a' e' : Int) : PV ((W.setCell ⟨n + 1, 0, none⟩ (.int .i64 a')).setCell ⟨n + 2, 0, none⟩ (.int .i64 e')) n t v z a' e' :=
  ⟨(heap_setCell_other _ _ _ _ (by simp only; omega)).trans ((heap_setCell_other _ _ _ _ (by simp only; omega)).trans h.b4), (heap_setCell_other _ _ _ _ (by simp only; omega)).trans ((heap_setCell_same W (n + 1) 0 _ 3 _ h.b5).trans rfl),
    (heap_setCell_same _ (n + 2) 0 _ 23 _ ((heap_setCell_other _ _ _ _ (by simp only; omega)).trans h.b6)).trans rfl, (heap_setCell_other _ _ _ _ (by simp only; omega)).trans ((heap_setCell_other _ _ _ _ (by simp only; omega)).trans h.b7)⟩
theorem PV.c56 {W : World} {n t : Nat} {v z : Array Value} {at_ e : Int} (h : PV W n t v z at_ e) : W.cell? ⟨n + 1, 0, none⟩ = some (.int .i64 at_) ∧ W.cell? ⟨n + 2, 0, none⟩ = some (.int .i64 e) :=
  ⟨by rw [cell_of_row W _ _ _ 3 (0, 0) h.b5]; rfl, by rw [cell_of_row W _ _ _ 23 (0, 0) h.b6]; rfl⟩
theorem PV.c4 {W : World} {n t : Nat} {v z : Array Value} {at_ e : Int} (h : PV W n t v z at_ e) (i : Nat) : W.cell? ⟨n, i, none⟩ = v[i]? := by rw [cell_of_row W _ i _ t (0, 0) h.b4]
theorem PV.c7 {W : World} {n t : Nat} {v z : Array Value} {at_ e : Int} (h : PV W n t v z at_ e) (i : Nat) : W.cell? ⟨n + 3, i, none⟩ = z[i]? := by rw [cell_of_row W _ i _ t (0, 0) h.b7]
theorem PV.f4 {W : World} {n t : Nat} {v z : Array Value} {at_ e : Int} (h : PV W n t v z at_ e) (i : Nat) : W.frozen? ⟨n, i, none⟩ = false := frozen_of_row W n i _ t h.b4
theorem PV.f56 {W : World} {n t : Nat} {v z : Array Value} {at_ e : Int} (h : PV W n t v z at_ e) : W.frozen? ⟨n + 1, 0, none⟩ = false ∧ W.frozen? ⟨n + 2, 0, none⟩ = false := ⟨frozen_of_row W _ 0 _ 3 h.b5, frozen_of_row W _ 0 _ 23 h.b6⟩
theorem SL.ne1 {W : World} {A : Option Addr} {m : Nat} {l : List Tk} (h : SL tcf 4 W A m l) (hm : 0 < m) {g t : Nat} {v : Value} (hb : W.heap[g]? = some (.cells #[v] t (0, 0))) : ∀ x, A = some x → x.block ≠ g := fun x hx e => by
  obtain ⟨b, off, e1, _, hc⟩ := h.2 hm
  rw [e1] at hx
  injection hx with hx
  subst hx
  simp only at e
  subst e
  obtain ⟨t0, ht0⟩ : ∃ t0, l[0]? = some t0 := ⟨_, List.getElem?_eq_getElem (by rw [← h.1]; exact hm)⟩
  have h3 := hc 0 t0 ht0 3 _ rfl
  rw [cell_of_row W _ _ _ t (0, 0) hb] at h3
  simp at h3
theorem SL.ne4 {W : World} {A : Option Addr} {m : Nat} {l : List Tk} (h : SL tcf 4 W A m l) (hm : 0 < m) {g t : Nat} {v0 v1 v2 : Value} {x3 : Option Addr} {m3 c3 : Nat} (hb : W.heap[g]? = some (.cells #[v0, v1, v2, .slice x3 m3 c3] t (0, 0))) : ∀ x, A = some x → x.block ≠ g := fun x hx e => by
  obtain ⟨b, off, e1, _, hc⟩ := h.2 hm
  rw [e1] at hx
  injection hx with hx
  subst hx
  simp only at e
  subst e
  obtain ⟨t0, ht0⟩ : ∃ t0, l[0]? = some t0 := ⟨_, List.getElem?_eq_getElem (by rw [← h.1]; exact hm)⟩
  have h3 := hc 0 t0 ht0 3 _ rfl
  rw [cell_of_row W _ _ _ t (0, 0) hb] at h3
  by_cases h0 : off = 0
  · subst h0
    simp at h3
  · have h1 : (#[v0, v1, v2, .slice x3 m3 c3] : Array Value)[off + 0 * 4 + 3]? = none := Array.getElem?_eq_none (by simp; omega)
    rw [h1] at h3
    cases h3
theorem PV.st1 {W : World} {n t : Nat} {x y : Value} {z : Array Value} {at_ e : Int} (h : PV W n t #[x] z at_ e) : PV (W.setCell ⟨n, 0, none⟩ y) n t #[y] z at_ e :=
  ⟨(heap_setCell_same W n 0 _ t _ h.b4).trans rfl, (heap_setCell_other _ _ _ _ (by simp)).trans h.b5, (heap_setCell_other _ _ _ _ (by simp)).trans h.b6, (heap_setCell_other _ _ _ _ (by simp)).trans h.b7⟩
theorem PV.st4 {W : World} {n t : Nat} {x0 x1 x2 x3 y0 y1 y2 y3 : Value} {z : Array Value} {at_ e : Int} (h : PV W n t #[x0, x1, x2, x3] z at_ e) : PV ((((W.setCell ⟨n, 0, none⟩ y0).setCell ⟨n, 1, none⟩ y1).setCell ⟨n, 2, none⟩ y2).setCell ⟨n, 3, none⟩ y3) n t #[y0, y1, y2, y3] z at_ e := by
  have a0 : PV (W.setCell ⟨n, 0, none⟩ y0) n t #[y0, x1, x2, x3] z at_ e := ⟨(heap_setCell_same W n 0 _ t _ h.b4).trans rfl, (heap_setCell_other _ _ _ _ (by simp)).trans h.b5, (heap_setCell_other _ _ _ _ (by simp)).trans h.b6, (heap_setCell_other _ _ _ _ (by simp)).trans h.b7⟩
  have a1 : PV ((W.setCell ⟨n, 0, none⟩ y0).setCell ⟨n, 1, none⟩ y1) n t #[y0, y1, x2, x3] z at_ e := ⟨(heap_setCell_same _ n 1 _ t _ a0.b4).trans rfl, (heap_setCell_other _ _ _ _ (by simp)).trans a0.b5, (heap_setCell_other _ _ _ _ (by simp)).trans a0.b6, (heap_setCell_other _ _ _ _ (by simp)).trans a0.b7⟩
  have a2 : PV (((W.setCell ⟨n, 0, none⟩ y0).setCell ⟨n, 1, none⟩ y1).setCell ⟨n, 2, none⟩ y2) n t #[y0, y1, y2, x3] z at_ e := ⟨(heap_setCell_same _ n 2 _ t _ a1.b4).trans rfl, (heap_setCell_other _ _ _ _ (by simp)).trans a1.b5, (heap_setCell_other _ _ _ _ (by simp)).trans a1.b6, (heap_setCell_other _ _ _ _ (by simp)).trans a1.b7⟩
  exact ⟨(heap_setCell_same _ n 3 _ t _ a2.b4).trans rfl, (heap_setCell_other _ _ _ _ (by simp)).trans a2.b5, (heap_setCell_other _ _ _ _ (by simp)).trans a2.b6, (heap_setCell_other _ _ _ _ (by simp)).trans a2.b7⟩
theorem PB.setO {W : World} {b : Nat} {A : Option Addr} {N c : Nat} {toks : List Tk} {a o : Nat} (h : PB W b A N c toks a o) {g i : Nat} (u : Value) (hg : b ≠ g) (hA : ∀ x, A = some x → x.block ≠ g) (h0 : g ≠ 0) : PB (W.setCell ⟨g, i, none⟩ u) b A N c toks a o :=
  ⟨(heap_setCell_other W _ _ _ (by simpa using hg)).trans h.blk, h.tok.blocks fun x hx _ => heap_setCell_other W _ _ _ (by simpa using hA x hx), h.wf, h.old, h.at_, by
    obtain ⟨m, hm⟩ := h.ml
    exact ⟨m, by rw [World.cell?_of_block (a := ⟨0, 0, none⟩) (heap_setCell_other W _ _ _ (by simp only; omega))]; exact hm⟩, h.b0, h.nb, h.sz⟩
theorem pv33 (w : World) : PV ((((w.alloc (.cells #[.slice none 0 0] 22)).alloc (.cells #[.int .i64 0] 3)).alloc (.cells #[.int .i64 0] 23)).alloc (.cells #[.slice none 0 0] 22)) w.heap.size 22 #[.slice none 0 0] #[.slice none 0 0] 0 0 ∧ ((((w.alloc (.cells #[.slice none 0 0] 22)).alloc (.cells #[.int .i64 0] 3)).alloc (.cells #[.int .i64 0] 23)).alloc (.cells #[.slice none 0 0] 22)).heap.size = w.heap.size + 4 := by
  have e0 := heap_alloc_new w (.cells #[.slice none 0 0] 22)
  have e1 := heap_alloc_new (w.alloc (.cells #[.slice none 0 0] 22)) (.cells #[.int .i64 0] 3)
  have e2 := heap_alloc_new ((w.alloc (.cells #[.slice none 0 0] 22)).alloc (.cells #[.int .i64 0] 3)) (.cells #[.int .i64 0] 23)
  have e3 := heap_alloc_new (((w.alloc (.cells #[.slice none 0 0] 22)).alloc (.cells #[.int .i64 0] 3)).alloc (.cells #[.int .i64 0] 23)) (.cells #[.slice none 0 0] 22)
  have s0 : (w.alloc (.cells #[.slice none 0 0] 22)).heap.size = w.heap.size + 1 := by simp
  have s1 : ((w.alloc (.cells #[.slice none 0 0] 22)).alloc (.cells #[.int .i64 0] 3)).heap.size = w.heap.size + 2 := by simp
  have s2 : (((w.alloc (.cells #[.slice none 0 0] 22)).alloc (.cells #[.int .i64 0] 3)).alloc (.cells #[.int .i64 0] 23)).heap.size = w.heap.size + 3 := by simp
  have s3 : ((((w.alloc (.cells #[.slice none 0 0] 22)).alloc (.cells #[.int .i64 0] 3)).alloc (.cells #[.int .i64 0] 23)).alloc (.cells #[.slice none 0 0] 22)).heap.size = w.heap.size + 4 := by simp
  rw [s0] at e1
  rw [s1] at e2
  rw [s2] at e3
  have x1 : Ext (w.alloc (.cells #[.slice none 0 0] 22)) ((((w.alloc (.cells #[.slice none 0 0] 22)).alloc (.cells #[.int .i64 0] 3)).alloc (.cells #[.int .i64 0] 23)).alloc (.cells #[.slice none 0 0] 22)) := (((Ext.refl _).alloc _).alloc _).alloc _
  have x2 : Ext ((w.alloc (.cells #[.slice none 0 0] 22)).alloc (.cells #[.int .i64 0] 3)) ((((w.alloc (.cells #[.slice none 0 0] 22)).alloc (.cells #[.int .i64 0] 3)).alloc (.cells #[.int .i64 0] 23)).alloc (.cells #[.slice none 0 0] 22)) := ((Ext.refl _).alloc _).alloc _
  have x3 : Ext (((w.alloc (.cells #[.slice none 0 0] 22)).alloc (.cells #[.int .i64 0] 3)).alloc (.cells #[.int .i64 0] 23)) ((((w.alloc (.cells #[.slice none 0 0] 22)).alloc (.cells #[.int .i64 0] 3)).alloc (.cells #[.int .i64 0] 23)).alloc (.cells #[.slice none 0 0] 22)) := (Ext.refl _).alloc _
  exact ⟨⟨(x1.block _ (by omega)).trans e0, (x2.block _ (by omega)).trans e1, (x3.block _ (by omega)).trans e2, e3⟩, s3⟩
set_option maxHeartbeats 4000000 in
set_option maxRecDepth 100000 in
theorem pparse33_any (s : ByteArray) (w : World) (hs : s.size ≤ 281474976710656) (hE : Env13 w) :
    Calls Tryz.prog 33 #[.string s, .func (.func 34) #[] #[]] w (PaPost (RWl w.heap.size) w (parseG (RP EX []) ([] : List Rl) (lexT s.data.toList))) := by
  have hmf : ∀ (fn : Fn) (first cap : Array Value) (w : World), (Instr.makeFunc fn first cap).run Tryz.prog w = .ok (.func fn first cap) w := fun _ _ _ _ => rfl
  have hpv := pv33 w
  have hx0 : Ext w ((((w.alloc (.cells #[.slice none 0 0] 22)).alloc (.cells #[.int .i64 0] 3)).alloc (.cells #[.int .i64 0] 23)).alloc (.cells #[.slice none 0 0] 22)) := ((((Ext.refl w).alloc _).alloc _).alloc _).alloc _
  have HX0 := Lib.hid hx0
  have HE3 := Lib.hid hE
  have HC := Lib.hid (fun X (hX : Ext w X) => tokens_any s X hs (hE.1.ext hX) (hE.2.1.ext hX))
  have HPV := Lib.hid hpv
  obtain ⟨LX, hLX⟩ : ∃ x, x = lexT s.data.toList := ⟨_, rfl⟩
  rw [← hLX] at HC ⊢
  have HLX := Lib.hid hLX
  obtain ⟨RES, hRES⟩ : ∃ R, R = parseG (RP EX []) ([] : List Rl) LX := ⟨_, rfl⟩
  rw [← hRES]
  have HRES := Lib.hid hRES
  clear hpv hx0 hE hLX hRES
  go_enter_defers Tryz.func33, Tryz.ntmps33
  go_upto_region 2 with (fail)
  generalize ((((w.alloc (.cells #[.slice none 0 0] 22)).alloc (.cells #[.int .i64 0] 3)).alloc (.cells #[.int .i64 0] 23)).alloc (.cells #[.slice none 0 0] 22)) = w3 at *
  have HN4 := Lib.hid HPV.out.2
  have HP3 := Lib.hid HPV.out.1
  clear HPV
  go_upto_region 3 with (first | (go_at_call 28; refine (HC.out _ HX0.out).mono ?_; rintro e w4 ⟨A, c, rfl, hsl, hx4, hc⟩; have HP4 := Lib.hid (HP3.out.ext hx4); obtain ⟨c5, c6⟩ := HP4.out.c56; obtain ⟨f5, f6⟩ := HP4.out.f56; have HSL := Lib.hid hsl; have HX4 := Lib.hid hx4; clear hsl hx4 hc))
  obtain ⟨w5, hw5⟩ : ∃ x, x = (w4.setCell ⟨w.heap.size + 1, 0, none⟩ (.int .i64 LX.off)).setCell ⟨w.heap.size + 2, 0, none⟩ (.int .i64 LX.e) := ⟨_, rfl⟩
  have hp5 := HP4.out.set56 LX.off LX.e
  rw [← hw5] at hp5 ⊢
  have hx5 : Ext w w5 := by rw [hw5]; exact ((HX0.out.trans HX4.out).setCell (p := ⟨w.heap.size + 1, 0, none⟩) (Nat.le_succ _) _).setCell (p := ⟨w.heap.size + 2, 0, none⟩) (by simp only; omega) _
  have hsz5 : w5.heap.size = w4.heap.size := by rw [hw5]; simp
  have hsl5 : SL tcf 4 w5 A LX.l.length LX.l := by
    by_cases h0 : 0 < LX.l.length
    · have n5 := HSL.out.ne1 h0 HP4.out.b5
      have n6 := HSL.out.ne1 h0 HP4.out.b6
      rw [hw5]
      exact HSL.out.blocks fun x hx _ => (heap_setCell_other _ _ _ _ (by simpa using n6 x hx)).trans (heap_setCell_other _ _ _ _ (by simpa using n5 x hx))
    · exact ⟨rfl, fun h => absurd h h0⟩
  clear hw5 c5 c6 f5 f6
  obtain ⟨c5, c6⟩ := hp5.c56
  obtain ⟨f5, f6⟩ := hp5.f56
  have HP5 := Lib.hid hp5
  have HX5 := Lib.hid hx5
  have HSL5 := Lib.hid hsl5
  clear HP4 HP3 HSL hp5 hx5 hsl5 HC
  by_cases hz : LX.e = 0
  · have hlex := lexT_ok (by rw [← HLX.out]; exact hz)
    rw [← HLX.out] at hlex
    obtain ⟨hwf, hlen, hpos, htx, hq1, hq2⟩ := hlex
    clear hq1 hq2
    have hres := HRES.out
    unfold parseG at hres
    rw [if_pos hz] at hres
    clear HRES
    have HRES := Lib.hid hres
    have hb : (LX.e != 0) = false := by simp [hz]
    have hn4 := HSL5.out.ne1 hpos HP5.out.b4
    have hn5 := HSL5.out.ne1 hpos HP5.out.b5
    have hn6 := HSL5.out.ne1 hpos HP5.out.b6
    have hw0 : 0 < w.heap.size := by obtain ⟨m, hm⟩ := HE3.out.2.2; exact Nat.lt_of_le_of_lt (Nat.zero_le _) (block_lt_of_cell hm)
    have hE5 := (HE3.out.ext HX5.out).2.2
    have hs5 : w.heap.size + 4 ≤ w5.heap.size := by have := lt_of_block HP5.out.b7; omega
    obtain ⟨toks, htk⟩ : ∃ l, l = LX.l := ⟨_, rfl⟩
    obtain ⟨N, hN⟩ : ∃ n, n = LX.l.length := ⟨_, rfl⟩
    rw [← htk] at hwf htx HRES
    have hsl : SL tcf 4 w5 A N toks := by rw [hN, htk]; exact HSL5.out
    rw [← hN] at hlen hpos ⊢
    have hx6 : Ext w5 (w5.alloc (.cells #[.slice A N c, .int .i64 0, .int .i64 0] 57)) := (Ext.refl w5).alloc _
    have hpb : PB (w5.alloc (.cells #[.slice A N c, .int .i64 0, .int .i64 0] 57)) w5.heap.size A N c toks 0 0 :=
      ⟨heap_alloc_new _ _, hsl.ext hx6, hwf, fun x hx => by
        obtain ⟨b9, off9, e9, hb9, _⟩ := hsl.2 hpos
        rw [e9] at hx
        injection hx with hx
        rw [← hx]
        simp only
        omega, hpos, by
        obtain ⟨m, hm⟩ := hE5
        exact ⟨m, by rw [hx6.cells.1 0 0 (by omega)]; exact hm⟩, by omega, by omega, fun t ht => by have := htx t ht; omega⟩
    have HLN := Lib.hid hlen
    clear hz hres hwf hlen hpos htx htk hN hsl hsz5 HSL5 hE5
    go_upto_region 7 with (fail)
    clear c5 c6 f5 f6
    have HP6 := Lib.hid (HP5.out.ext hx6)
    have HX6 := Lib.hid (HX5.out.trans hx6)
    have hs6 : w5.heap.size < (w5.alloc (.cells #[.slice A N c, .int .i64 0, .int .i64 0] 57)).heap.size := by simp
    generalize w5.alloc (.cells #[.slice A N c, .int .i64 0, .int .i64 0] 57) = w6 at *
    clear hx6
    generalize w5.heap.size = b at *
    have HPB := Lib.hid hpb
    have HC := Lib.hid (show Calls Tryz.prog 34 #[.pointer (some ⟨b, 0, none⟩)] w6 (GP b A N c toks 0 0 (RWl w6.heap.size) w6 ((RP EX []) toks)) from prules_any 40000 hpb  (by have := HLN.out; omega))
    clear hpb
    cases hC : (RP EX []) toks with
    | bad r er =>
      rw [hC] at HC
      have hres := HRES.out
      rw [hC] at hres
      simp only at hres
      clear HRES hC
      subst hres
      go_wp2_with (first | (go_at_call 34; refine (HC.out).mono ?_; rintro e w9 ⟨a9, o9, rfl, ha9, hr9, hp9, hm9⟩; have HR9 := Lib.hid hr9; clear hr9))
      have hp := HP6.out.mv hm9 (by omega)
      refine leaves_cons (f := 72) (args := #[.pointer (some ⟨w.heap.size + 3, 0, none⟩), .pointer (some ⟨w.heap.size, 0, none⟩), .pointer (some ⟨w.heap.size + 1, 0, none⟩), .pointer (some ⟨w.heap.size + 2, 0, none⟩)]) (by simp) (by simp [go_sem]) ?_
      refine (catch72_pan (w.heap.size + 3) w.heap.size (w.heap.size + 1) (w.heap.size + 2) (hd r).at_ er _ _ _ w9 (by omega) (by omega) (by omega) (by omega) (by omega) (by omega) (by rw [hp.c7 0]; rfl) (by rw [hp.c4 0]; rfl) hp.c56.1 hp.c56.2 (hp.f4 0) hp.f56.1 hp.f56.2).mono ?_
      rintro e u' w10 ⟨rfl, rfl, hk4, hk5, hk6, htu⟩
      have hq0 := hk4
      refine (show Leaves _ _ _ _ [] .returning _ from ⟨.tuple #[.slice none 0 0, .int .i64 (hd r).at_, .int .i64 er], by simp [results, Tryz.results33, go_sem, *], .slice none 0 0, rfl, ⟨none, 0, rfl, RW.nil _ _⟩, ?_⟩)
      exact htu.ext w (Nat.le_refl _) (by omega) (by omega) (hm9.ext w (by omega) HX6.out)
    | ok v r =>
      rw [hC] at HC
      have hres := HRES.out
      rw [hC] at hres
      simp only at hres
      clear HRES hC
      have HRES := Lib.hid hres
      clear hres
      go_upto_region 8 with (first | (go_at_call 34; refine (HC.out).mono ?_; rintro e w9 ⟨v9, a9, rfl, hv9, ha9, hr9, hp9, hm9⟩; obtain ⟨A9, c9, rfl, hv9⟩ := hv9; have HR9 := Lib.hid hr9; have HV9 := Lib.hid hv9; have HP9 := Lib.hid hp9; have HM9 := Lib.hid hm9; have HPV9 := Lib.hid (HP6.out.mv hm9 (by omega)); have q40 := HPV9.out.c4 0; simp at q40; have y40 := HPV9.out.f4 0; clear hr9 hp9 hm9 hv9))
      have e9 := HR9.out
      subst e9
      clear HR9
      obtain ⟨w10, hw10⟩ : ∃ x, x = (w9.setCell ⟨w.heap.size, 0, none⟩ (.slice A9 v.length c9)) := ⟨_, rfl⟩
      have hpb := (HP9.out.setO (g := w.heap.size) (i := 0) (.slice A9 v.length c9) (by omega) hn4 (by omega))
      have hpv := HPV9.out.st1 (y := .slice A9 v.length c9)
      have hx10 : Ext w (w9.setCell ⟨w.heap.size, 0, none⟩ (.slice A9 v.length c9)) := ((HM9.out.ext w (by omega) HX6.out).setCell (p := ⟨w.heap.size, 0, none⟩) (Nat.le_refl _) (.slice A9 v.length c9))
      have HK10 := Lib.hid (show ∀ k, k ≠ w.heap.size → ((w9.setCell ⟨w.heap.size, 0, none⟩ (.slice A9 v.length c9))).heap[k]? = w9.heap[k]? from fun k hk => by rw [heap_setCell_other _ _ _ _ (by simpa using hk)])
      have hz10 : ((w9.setCell ⟨w.heap.size, 0, none⟩ (.slice A9 v.length c9))).heap.size = w9.heap.size := by simp
      rw [← hw10] at hpb hpv hx10 HK10 hz10 ⊢
      have HPB10 := Lib.hid hpb
      have HPV10 := Lib.hid hpv
      have HX10 := Lib.hid hx10
      have HZ10 := Lib.hid hz10
      have hbl := hpb.lt
      obtain ⟨g, off, t, hA, ht0, htm, ht, _, k0, _, _, _⟩ := hpb.tk
      have j0 := hpb.c0
      have j1 := hpb.c1
      have haI : (a9 : Int) < (N : Int) := by have := hpb.at_; omega
      rw [hA] at j0
      have hres := HRES.out
      rw [ht] at hres
      clear HRES hw10 hz10 q40 y40 hA ht0 htm
      by_cases hk : t.kd = 0
      · rw [if_pos hk] at hres
        subst hres
        have hkb : (t.kd != 0) = false := by simp [hk]
        clear hpb hpv hx10 ht hk
        go_upto_region 8 with (fail)
        go_quiet (fail)
        have hpn := HPV10.out.ext ((Ext.refl w10).drewN nq)
        have HXN := Lib.hid (HX10.out.trans ((Ext.refl w10).drewN nq))
        have HPN := Lib.hid hpn
        have HKN := Lib.hid (show ∀ k, k < w10.heap.size → (w10.drewN nq).heap[k]? = w10.heap[k]? from fun k hk => ((Ext.refl w10).drewN nq).block k hk)
        have HZN := Lib.hid (((Ext.refl w10).drewN nq).lt)
        generalize w10.drewN nq = wq at *
        clear j0 j1 k0
        obtain ⟨u5, u6⟩ := hpn.c56
        obtain ⟨y5, y6⟩ := hpn.f56
        have q40 := HPN.out.c4 0; simp at q40; have y40 := HPN.out.f4 0
        clear hpn
        go_wp2
        refine leaves_cons (f := 72) (args := #[.pointer (some ⟨w.heap.size + 3, 0, none⟩), .pointer (some ⟨w.heap.size, 0, none⟩), .pointer (some ⟨w.heap.size + 1, 0, none⟩), .pointer (some ⟨w.heap.size + 2, 0, none⟩)]) (by simp) (by simp [go_sem]) ?_
        have hpe := (HPN.out.st1 (y := .slice A9 v.length c9)).set56 0 0
        refine (catch72_idle _ _ _ _ _).mono ?_
        rintro e u' w13 ⟨rfl, rfl, hx13⟩
        have hpf := hpe.ext hx13
        obtain ⟨u5, u6⟩ := hpf.c56
        have q40 := hpf.c4 0; simp at q40
        refine (show Leaves _ _ _ _ [] .returning _ from ⟨.tuple #[.slice A9 v.length c9, .int .i64 0, .int .i64 0], by simp [results, Tryz.results33, go_sem, *], .slice A9 v.length c9, rfl, ?_, ?_⟩)
        · have hkk : ∀ k, w6.heap.size ≤ k → k < w9.heap.size → w13.heap[k]? = w9.heap[k]? := fun k h1 h2 => (hx13.block k (by have := HZ10.out; have := HZN.out; simp; omega)).trans ((by rw [heap_setCell_other _ _ _ _ (by simp only; omega), heap_setCell_other _ _ _ _ (by simp only; omega), heap_setCell_other _ _ _ _ (by simp only; omega)] : _ = wq.heap[k]?).trans ((HKN.out k (by have := HZ10.out; omega)).trans (HK10.out k (by omega))))
          exact ⟨A9, c9, rfl, (HV9.out.keep (Nat.le_trans (by have := HZ10.out; have := HZN.out; simp; omega) hx13.lt) (fun k h1 h2 => hkk k h1 h2)).mono (fun k h1 _ => by change _ ≤ k at h1; change _ ≤ k; omega)⟩
        · exact (((HXN.out.setCell (p := ⟨w.heap.size, 0, none⟩) (Nat.le_refl _) (.slice A9 v.length c9)).setCell (p := ⟨w.heap.size + 1, 0, none⟩) (by simp) _).setCell (p := ⟨w.heap.size + 2, 0, none⟩) (by simp) _).trans hx13
      · rw [if_neg hk] at hres
        subst hres
        have hkb : (t.kd != 0) = true := by simpa using hk
        have HF := Lib.hid (fun X (hX : Ext w10 X) => pfail_any (hpb.ext hX) 20)
        have HT := Lib.hid ht
        clear hpb hpv hx10 ht hk
        go_upto_region 8 with (fail)
        go_quiet (fail)
        go_wp2_with (first | (go_at_call 73; refine (HF.out _ ((Ext.refl _).drewN _)).mono ?_; rintro e w11 ⟨rfl, hx11⟩))
        have hxx := ((Ext.refl w10).drewN nq).trans hx11
        have hp := HPV10.out.ext hxx
        refine leaves_cons (f := 72) (args := #[.pointer (some ⟨w.heap.size + 3, 0, none⟩), .pointer (some ⟨w.heap.size, 0, none⟩), .pointer (some ⟨w.heap.size + 1, 0, none⟩), .pointer (some ⟨w.heap.size + 2, 0, none⟩)]) (by simp) (by simp [go_sem]) ?_
        refine (catch72_pan (w.heap.size + 3) w.heap.size (w.heap.size + 1) (w.heap.size + 2) (hd (toks.drop a9)).at_ 20 _ _ _ w11 (by omega) (by omega) (by omega) (by omega) (by omega) (by omega) (by rw [hp.c7 0]; rfl) (by rw [hp.c4 0]; rfl) hp.c56.1 hp.c56.2 (hp.f4 0) hp.f56.1 hp.f56.2).mono ?_
        rintro e u' w12 ⟨rfl, rfl, hk4, hk5, hk6, htu⟩
        have hq0 := hk4
        rw [HT.out] at hk5
        refine (show Leaves _ _ _ _ [] .returning _ from ⟨.tuple #[.slice none 0 0, .int .i64 t.at_, .int .i64 20], by simp [results, Tryz.results33, go_sem, *], .slice none 0 0, rfl, ⟨none, 0, rfl, RW.nil _ _⟩, ?_⟩)
        exact htu.ext w (Nat.le_refl _) (by omega) (by omega) (HX10.out.trans hxx)
  · have hb : (LX.e != 0) = true := by simpa using hz
    have hres := HRES.out
    unfold parseG at hres
    rw [if_neg hz] at hres
    clear HRES hz
    subst hres
    have c40 := HP5.out.c4 0; simp at c40; have f40 := HP5.out.f4 0
    have c70 := HP5.out.c7 0; simp at c70
    go_upto_region 4 with (fail)
    go_region
    all_goals
      go_wp2
      refine (show Leaves _ _ _ _ [] .returning _ from ⟨.tuple #[.slice none 0 0, .int .i64 LX.off, .int .i64 LX.e], by simp [results, Tryz.results33, go_sem, *], .slice none 0 0, rfl, ⟨none, 0, rfl, RW.nil _ _⟩, ?_⟩)
      exact (((HX5.out.trans (Ext.refl _).drew).setCell (p := ⟨w.heap.size, 0, none⟩) (by simp) _).setCell (p := ⟨w.heap.size + 1, 0, none⟩) (by simp) _).setCell (p := ⟨w.heap.size + 2, 0, none⟩) (by simp) _
theorem pv39 (w : World) : PV ((((w.alloc (.cells #[.int .i64 0, .int .i64 0, .string ⟨#[]⟩, .slice none 0 0] 31)).alloc (.cells #[.int .i64 0] 3)).alloc (.cells #[.int .i64 0] 23)).alloc (.cells #[.int .i64 0, .int .i64 0, .string ⟨#[]⟩, .slice none 0 0] 31)) w.heap.size 31 #[.int .i64 0, .int .i64 0, .string ⟨#[]⟩, .slice none 0 0] #[.int .i64 0, .int .i64 0, .string ⟨#[]⟩, .slice none 0 0] 0 0 ∧ ((((w.alloc (.cells #[.int .i64 0, .int .i64 0, .string ⟨#[]⟩, .slice none 0 0] 31)).alloc (.cells #[.int .i64 0] 3)).alloc (.cells #[.int .i64 0] 23)).alloc (.cells #[.int .i64 0, .int .i64 0, .string ⟨#[]⟩, .slice none 0 0] 31)).heap.size = w.heap.size + 4 := by
  have e0 := heap_alloc_new w (.cells #[.int .i64 0, .int .i64 0, .string ⟨#[]⟩, .slice none 0 0] 31)
  have e1 := heap_alloc_new (w.alloc (.cells #[.int .i64 0, .int .i64 0, .string ⟨#[]⟩, .slice none 0 0] 31)) (.cells #[.int .i64 0] 3)
  have e2 := heap_alloc_new ((w.alloc (.cells #[.int .i64 0, .int .i64 0, .string ⟨#[]⟩, .slice none 0 0] 31)).alloc (.cells #[.int .i64 0] 3)) (.cells #[.int .i64 0] 23)
  have e3 := heap_alloc_new (((w.alloc (.cells #[.int .i64 0, .int .i64 0, .string ⟨#[]⟩, .slice none 0 0] 31)).alloc (.cells #[.int .i64 0] 3)).alloc (.cells #[.int .i64 0] 23)) (.cells #[.int .i64 0, .int .i64 0, .string ⟨#[]⟩, .slice none 0 0] 31)
  have s0 : (w.alloc (.cells #[.int .i64 0, .int .i64 0, .string ⟨#[]⟩, .slice none 0 0] 31)).heap.size = w.heap.size + 1 := by simp
  have s1 : ((w.alloc (.cells #[.int .i64 0, .int .i64 0, .string ⟨#[]⟩, .slice none 0 0] 31)).alloc (.cells #[.int .i64 0] 3)).heap.size = w.heap.size + 2 := by simp
  have s2 : (((w.alloc (.cells #[.int .i64 0, .int .i64 0, .string ⟨#[]⟩, .slice none 0 0] 31)).alloc (.cells #[.int .i64 0] 3)).alloc (.cells #[.int .i64 0] 23)).heap.size = w.heap.size + 3 := by simp
  have s3 : ((((w.alloc (.cells #[.int .i64 0, .int .i64 0, .string ⟨#[]⟩, .slice none 0 0] 31)).alloc (.cells #[.int .i64 0] 3)).alloc (.cells #[.int .i64 0] 23)).alloc (.cells #[.int .i64 0, .int .i64 0, .string ⟨#[]⟩, .slice none 0 0] 31)).heap.size = w.heap.size + 4 := by simp
  rw [s0] at e1
  rw [s1] at e2
  rw [s2] at e3
  have x1 : Ext (w.alloc (.cells #[.int .i64 0, .int .i64 0, .string ⟨#[]⟩, .slice none 0 0] 31)) ((((w.alloc (.cells #[.int .i64 0, .int .i64 0, .string ⟨#[]⟩, .slice none 0 0] 31)).alloc (.cells #[.int .i64 0] 3)).alloc (.cells #[.int .i64 0] 23)).alloc (.cells #[.int .i64 0, .int .i64 0, .string ⟨#[]⟩, .slice none 0 0] 31)) := (((Ext.refl _).alloc _).alloc _).alloc _
  have x2 : Ext ((w.alloc (.cells #[.int .i64 0, .int .i64 0, .string ⟨#[]⟩, .slice none 0 0] 31)).alloc (.cells #[.int .i64 0] 3)) ((((w.alloc (.cells #[.int .i64 0, .int .i64 0, .string ⟨#[]⟩, .slice none 0 0] 31)).alloc (.cells #[.int .i64 0] 3)).alloc (.cells #[.int .i64 0] 23)).alloc (.cells #[.int .i64 0, .int .i64 0, .string ⟨#[]⟩, .slice none 0 0] 31)) := ((Ext.refl _).alloc _).alloc _
  have x3 : Ext (((w.alloc (.cells #[.int .i64 0, .int .i64 0, .string ⟨#[]⟩, .slice none 0 0] 31)).alloc (.cells #[.int .i64 0] 3)).alloc (.cells #[.int .i64 0] 23)) ((((w.alloc (.cells #[.int .i64 0, .int .i64 0, .string ⟨#[]⟩, .slice none 0 0] 31)).alloc (.cells #[.int .i64 0] 3)).alloc (.cells #[.int .i64 0] 23)).alloc (.cells #[.int .i64 0, .int .i64 0, .string ⟨#[]⟩, .slice none 0 0] 31)) := (Ext.refl _).alloc _
  exact ⟨⟨(x1.block _ (by omega)).trans e0, (x2.block _ (by omega)).trans e1, (x3.block _ (by omega)).trans e2, e3⟩, s3⟩
set_option maxHeartbeats 4000000 in
set_option maxRecDepth 100000 in
theorem pparse39_any (s : ByteArray) (w : World) (hs : s.size ≤ 281474976710656) (hE : Env13 w) :
    Calls Tryz.prog 39 #[.string s, .func (.func 40) #[] #[]] w (PaPost (RT w.heap.size) w (parseG (EX) trZero (lexT s.data.toList))) := by
  have hmf : ∀ (fn : Fn) (first cap : Array Value) (w : World), (Instr.makeFunc fn first cap).run Tryz.prog w = .ok (.func fn first cap) w := fun _ _ _ _ => rfl
  have hpv := pv39 w
  have hx0 : Ext w ((((w.alloc (.cells #[.int .i64 0, .int .i64 0, .string ⟨#[]⟩, .slice none 0 0] 31)).alloc (.cells #[.int .i64 0] 3)).alloc (.cells #[.int .i64 0] 23)).alloc (.cells #[.int .i64 0, .int .i64 0, .string ⟨#[]⟩, .slice none 0 0] 31)) := ((((Ext.refl w).alloc _).alloc _).alloc _).alloc _
  have HX0 := Lib.hid hx0
  have HE3 := Lib.hid hE
  have HC := Lib.hid (fun X (hX : Ext w X) => tokens_any s X hs (hE.1.ext hX) (hE.2.1.ext hX))
  have HPV := Lib.hid hpv
  obtain ⟨LX, hLX⟩ : ∃ x, x = lexT s.data.toList := ⟨_, rfl⟩
  rw [← hLX] at HC ⊢
  have HLX := Lib.hid hLX
  obtain ⟨RES, hRES⟩ : ∃ R, R = parseG (EX) trZero LX := ⟨_, rfl⟩
  rw [← hRES]
  have HRES := Lib.hid hRES
  clear hpv hx0 hE hLX hRES
  go_enter_defers Tryz.func39, Tryz.ntmps39
  go_upto_region 2 with (fail)
  generalize ((((w.alloc (.cells #[.int .i64 0, .int .i64 0, .string ⟨#[]⟩, .slice none 0 0] 31)).alloc (.cells #[.int .i64 0] 3)).alloc (.cells #[.int .i64 0] 23)).alloc (.cells #[.int .i64 0, .int .i64 0, .string ⟨#[]⟩, .slice none 0 0] 31)) = w3 at *
  have HN4 := Lib.hid HPV.out.2
  have HP3 := Lib.hid HPV.out.1
  clear HPV
  go_upto_region 3 with (first | (go_at_call 28; refine (HC.out _ HX0.out).mono ?_; rintro e w4 ⟨A, c, rfl, hsl, hx4, hc⟩; have HP4 := Lib.hid (HP3.out.ext hx4); obtain ⟨c5, c6⟩ := HP4.out.c56; obtain ⟨f5, f6⟩ := HP4.out.f56; have HSL := Lib.hid hsl; have HX4 := Lib.hid hx4; clear hsl hx4 hc))
  obtain ⟨w5, hw5⟩ : ∃ x, x = (w4.setCell ⟨w.heap.size + 1, 0, none⟩ (.int .i64 LX.off)).setCell ⟨w.heap.size + 2, 0, none⟩ (.int .i64 LX.e) := ⟨_, rfl⟩
  have hp5 := HP4.out.set56 LX.off LX.e
  rw [← hw5] at hp5 ⊢
  have hx5 : Ext w w5 := by rw [hw5]; exact ((HX0.out.trans HX4.out).setCell (p := ⟨w.heap.size + 1, 0, none⟩) (Nat.le_succ _) _).setCell (p := ⟨w.heap.size + 2, 0, none⟩) (by simp only; omega) _
  have hsz5 : w5.heap.size = w4.heap.size := by rw [hw5]; simp
  have hsl5 : SL tcf 4 w5 A LX.l.length LX.l := by
    by_cases h0 : 0 < LX.l.length
    · have n5 := HSL.out.ne1 h0 HP4.out.b5
      have n6 := HSL.out.ne1 h0 HP4.out.b6
      rw [hw5]
      exact HSL.out.blocks fun x hx _ => (heap_setCell_other _ _ _ _ (by simpa using n6 x hx)).trans (heap_setCell_other _ _ _ _ (by simpa using n5 x hx))
    · exact ⟨rfl, fun h => absurd h h0⟩
  clear hw5 c5 c6 f5 f6
  obtain ⟨c5, c6⟩ := hp5.c56
  obtain ⟨f5, f6⟩ := hp5.f56
  have HP5 := Lib.hid hp5
  have HX5 := Lib.hid hx5
  have HSL5 := Lib.hid hsl5
  clear HP4 HP3 HSL hp5 hx5 hsl5 HC
  by_cases hz : LX.e = 0
  · have hlex := lexT_ok (by rw [← HLX.out]; exact hz)
    rw [← HLX.out] at hlex
    obtain ⟨hwf, hlen, hpos, htx, hq1, hq2⟩ := hlex
    clear hq1 hq2
    have hres := HRES.out
    unfold parseG at hres
    rw [if_pos hz] at hres
    clear HRES
    have HRES := Lib.hid hres
    have hb : (LX.e != 0) = false := by simp [hz]
    have hn4 := HSL5.out.ne4 hpos HP5.out.b4
    have hn5 := HSL5.out.ne1 hpos HP5.out.b5
    have hn6 := HSL5.out.ne1 hpos HP5.out.b6
    have hw0 : 0 < w.heap.size := by obtain ⟨m, hm⟩ := HE3.out.2.2; exact Nat.lt_of_le_of_lt (Nat.zero_le _) (block_lt_of_cell hm)
    have hE5 := (HE3.out.ext HX5.out).2.2
    have hs5 : w.heap.size + 4 ≤ w5.heap.size := by have := lt_of_block HP5.out.b7; omega
    obtain ⟨toks, htk⟩ : ∃ l, l = LX.l := ⟨_, rfl⟩
    obtain ⟨N, hN⟩ : ∃ n, n = LX.l.length := ⟨_, rfl⟩
    rw [← htk] at hwf htx HRES
    have hsl : SL tcf 4 w5 A N toks := by rw [hN, htk]; exact HSL5.out
    rw [← hN] at hlen hpos ⊢
    have hx6 : Ext w5 (w5.alloc (.cells #[.slice A N c, .int .i64 0, .int .i64 0] 57)) := (Ext.refl w5).alloc _
    have hpb : PB (w5.alloc (.cells #[.slice A N c, .int .i64 0, .int .i64 0] 57)) w5.heap.size A N c toks 0 0 :=
      ⟨heap_alloc_new _ _, hsl.ext hx6, hwf, fun x hx => by
        obtain ⟨b9, off9, e9, hb9, _⟩ := hsl.2 hpos
        rw [e9] at hx
        injection hx with hx
        rw [← hx]
        simp only
        omega, hpos, by
        obtain ⟨m, hm⟩ := hE5
        exact ⟨m, by rw [hx6.cells.1 0 0 (by omega)]; exact hm⟩, by omega, by omega, fun t ht => by have := htx t ht; omega⟩
    have HLN := Lib.hid hlen
    clear hz hres hwf hlen hpos htx htk hN hsl hsz5 HSL5 hE5
    go_upto_region 7 with (fail)
    clear c5 c6 f5 f6
    have HP6 := Lib.hid (HP5.out.ext hx6)
    have HX6 := Lib.hid (HX5.out.trans hx6)
    have hs6 : w5.heap.size < (w5.alloc (.cells #[.slice A N c, .int .i64 0, .int .i64 0] 57)).heap.size := by simp
    generalize w5.alloc (.cells #[.slice A N c, .int .i64 0, .int .i64 0] 57) = w6 at *
    clear hx6
    generalize w5.heap.size = b at *
    have HPB := Lib.hid hpb
    have HC := Lib.hid (show Calls Tryz.prog 40 #[.pointer (some ⟨b, 0, none⟩)] w6 (GP b A N c toks 0 0 (RT w6.heap.size) w6 ((EX) toks)) from pwhole_any 40000 hpb (by omega) (by have := HLN.out; omega))
    clear hpb
    cases hC : (EX) toks with
    | bad r er =>
      rw [hC] at HC
      have hres := HRES.out
      rw [hC] at hres
      simp only at hres
      clear HRES hC
      subst hres
      go_wp2_with (first | (go_at_call 40; refine (HC.out).mono ?_; rintro e w9 ⟨a9, o9, rfl, ha9, hr9, hp9, hm9⟩; have HR9 := Lib.hid hr9; clear hr9))
      have hp := HP6.out.mv hm9 (by omega)
      refine leaves_cons (f := 86) (args := #[.pointer (some ⟨w.heap.size + 3, 0, none⟩), .pointer (some ⟨w.heap.size, 0, none⟩), .pointer (some ⟨w.heap.size + 1, 0, none⟩), .pointer (some ⟨w.heap.size + 2, 0, none⟩)]) (by simp) (by simp [go_sem]) ?_
      refine (catch86_pan (w.heap.size + 3) w.heap.size (w.heap.size + 1) (w.heap.size + 2) (hd r).at_ er _ _ _ _ _ _ w9 (by omega) (by omega) (by omega) (by omega) (by omega) (by omega) (by rw [hp.c7 0]; rfl) (by rw [hp.c7 1]; rfl) (by rw [hp.c7 2]; rfl) (by rw [hp.c7 3]; rfl) (by rw [hp.c4 0]; rfl) (by rw [hp.c4 1]; rfl) (by rw [hp.c4 2]; rfl) (by rw [hp.c4 3]; rfl) hp.c56.1 hp.c56.2 (hp.f4 0) (hp.f4 1) (hp.f4 2) (hp.f4 3) hp.f56.1 hp.f56.2).mono ?_
      rintro e u' w10 ⟨rfl, rfl, hk4, hk5, hk6, htu⟩
      obtain ⟨hq0, hq1, hq2, hq3⟩ := hk4
      refine (show Leaves _ _ _ _ [] .returning _ from ⟨.tuple #[.agg #[.int .i64 0, .int .i64 0, .string ⟨#[]⟩, .slice none 0 0], .int .i64 (hd r).at_, .int .i64 er], by simp [results, Tryz.results39, go_sem, *], .agg #[.int .i64 0, .int .i64 0, .string ⟨#[]⟩, .slice none 0 0], rfl, ⟨⟨0, 0, ⟨#[]⟩, none, 0, 0⟩, rfl, Rep.leaf _ _ 0 0 []⟩, ?_⟩)
      exact htu.ext w (Nat.le_refl _) (by omega) (by omega) (hm9.ext w (by omega) HX6.out)
    | ok v r =>
      rw [hC] at HC
      have hres := HRES.out
      rw [hC] at hres
      simp only at hres
      clear HRES hC
      have HRES := Lib.hid hres
      clear hres
      go_upto_region 8 with (first | (go_at_call 40; refine (HC.out).mono ?_; rintro e w9 ⟨v9, a9, rfl, hv9, ha9, hr9, hp9, hm9⟩; obtain ⟨d, rfl, hv9⟩ := hv9; have HR9 := Lib.hid hr9; have HV9 := Lib.hid hv9; have HP9 := Lib.hid hp9; have HM9 := Lib.hid hm9; have HPV9 := Lib.hid (HP6.out.mv hm9 (by omega)); have q40 := HPV9.out.c4 0; simp at q40; have y40 := HPV9.out.f4 0; have q41 := HPV9.out.c4 1; simp at q41; have y41 := HPV9.out.f4 1; have q42 := HPV9.out.c4 2; simp at q42; have y42 := HPV9.out.f4 2; have q43 := HPV9.out.c4 3; simp at q43; have y43 := HPV9.out.f4 3; clear hr9 hp9 hm9 hv9))
      have e9 := HR9.out
      subst e9
      clear HR9
      obtain ⟨w10, hw10⟩ : ∃ x, x = ((((w9.setCell ⟨w.heap.size, 0, none⟩ (.int .i64 d.k)).setCell ⟨w.heap.size, 1, none⟩ (.int .i64 d.n)).setCell ⟨w.heap.size, 2, none⟩ (.string d.s)).setCell ⟨w.heap.size, 3, none⟩ (.slice d.A d.m d.c)) := ⟨_, rfl⟩
      have hpb := ((((HP9.out.setO (g := w.heap.size) (i := 0) (.int .i64 d.k) (by omega) hn4 (by omega)).setO (g := w.heap.size) (i := 1) (.int .i64 d.n) (by omega) hn4 (by omega)).setO (g := w.heap.size) (i := 2) (.string d.s) (by omega) hn4 (by omega)).setO (g := w.heap.size) (i := 3) (.slice d.A d.m d.c) (by omega) hn4 (by omega))
      have hpv := HPV9.out.st4 (y0 := .int .i64 d.k) (y1 := .int .i64 d.n) (y2 := .string d.s) (y3 := .slice d.A d.m d.c)
      have hx10 : Ext w ((((w9.setCell ⟨w.heap.size, 0, none⟩ (.int .i64 d.k)).setCell ⟨w.heap.size, 1, none⟩ (.int .i64 d.n)).setCell ⟨w.heap.size, 2, none⟩ (.string d.s)).setCell ⟨w.heap.size, 3, none⟩ (.slice d.A d.m d.c)) := (((((HM9.out.ext w (by omega) HX6.out).setCell (p := ⟨w.heap.size, 0, none⟩) (Nat.le_refl _) (.int .i64 d.k)).setCell (p := ⟨w.heap.size, 1, none⟩) (Nat.le_refl _) (.int .i64 d.n)).setCell (p := ⟨w.heap.size, 2, none⟩) (Nat.le_refl _) (.string d.s)).setCell (p := ⟨w.heap.size, 3, none⟩) (Nat.le_refl _) (.slice d.A d.m d.c))
      have HK10 := Lib.hid (show ∀ k, k ≠ w.heap.size → (((((w9.setCell ⟨w.heap.size, 0, none⟩ (.int .i64 d.k)).setCell ⟨w.heap.size, 1, none⟩ (.int .i64 d.n)).setCell ⟨w.heap.size, 2, none⟩ (.string d.s)).setCell ⟨w.heap.size, 3, none⟩ (.slice d.A d.m d.c))).heap[k]? = w9.heap[k]? from fun k hk => by rw [heap_setCell_other _ _ _ _ (by simpa using hk), heap_setCell_other _ _ _ _ (by simpa using hk), heap_setCell_other _ _ _ _ (by simpa using hk), heap_setCell_other _ _ _ _ (by simpa using hk)])
      have hz10 : (((((w9.setCell ⟨w.heap.size, 0, none⟩ (.int .i64 d.k)).setCell ⟨w.heap.size, 1, none⟩ (.int .i64 d.n)).setCell ⟨w.heap.size, 2, none⟩ (.string d.s)).setCell ⟨w.heap.size, 3, none⟩ (.slice d.A d.m d.c))).heap.size = w9.heap.size := by simp
      rw [← hw10] at hpb hpv hx10 HK10 hz10 ⊢
      have HPB10 := Lib.hid hpb
      have HPV10 := Lib.hid hpv
      have HX10 := Lib.hid hx10
      have HZ10 := Lib.hid hz10
      have hbl := hpb.lt
      obtain ⟨g, off, t, hA, ht0, htm, ht, _, k0, _, _, _⟩ := hpb.tk
      have j0 := hpb.c0
      have j1 := hpb.c1
      have haI : (a9 : Int) < (N : Int) := by have := hpb.at_; omega
      rw [hA] at j0
      have hres := HRES.out
      rw [ht] at hres
      clear HRES hw10 hz10 q40 y40 q41 y41 q42 y42 q43 y43 hA ht0 htm
      by_cases hk : t.kd = 0
      · rw [if_pos hk] at hres
        subst hres
        have hkb : (t.kd != 0) = false := by simp [hk]
        clear hpb hpv hx10 ht hk
        go_upto_region 8 with (fail)
        go_quiet (fail)
        have hpn := HPV10.out.ext ((Ext.refl w10).drewN nq)
        have HXN := Lib.hid (HX10.out.trans ((Ext.refl w10).drewN nq))
        have HPN := Lib.hid hpn
        have HKN := Lib.hid (show ∀ k, k < w10.heap.size → (w10.drewN nq).heap[k]? = w10.heap[k]? from fun k hk => ((Ext.refl w10).drewN nq).block k hk)
        have HZN := Lib.hid (((Ext.refl w10).drewN nq).lt)
        generalize w10.drewN nq = wq at *
        clear j0 j1 k0
        obtain ⟨u5, u6⟩ := hpn.c56
        obtain ⟨y5, y6⟩ := hpn.f56
        have q40 := HPN.out.c4 0; simp at q40; have y40 := HPN.out.f4 0; have q41 := HPN.out.c4 1; simp at q41; have y41 := HPN.out.f4 1; have q42 := HPN.out.c4 2; simp at q42; have y42 := HPN.out.f4 2; have q43 := HPN.out.c4 3; simp at q43; have y43 := HPN.out.f4 3
        clear hpn
        go_wp2
        refine leaves_cons (f := 86) (args := #[.pointer (some ⟨w.heap.size + 3, 0, none⟩), .pointer (some ⟨w.heap.size, 0, none⟩), .pointer (some ⟨w.heap.size + 1, 0, none⟩), .pointer (some ⟨w.heap.size + 2, 0, none⟩)]) (by simp) (by simp [go_sem]) ?_
        have hpe := (HPN.out.st4 (y0 := .int .i64 d.k) (y1 := .int .i64 d.n) (y2 := .string d.s) (y3 := .slice d.A d.m d.c)).set56 0 0
        refine (catch86_idle _ _ _ _ _).mono ?_
        rintro e u' w13 ⟨rfl, rfl, hx13⟩
        have hpf := hpe.ext hx13
        obtain ⟨u5, u6⟩ := hpf.c56
        have q40 := hpf.c4 0; simp at q40; have q41 := hpf.c4 1; simp at q41; have q42 := hpf.c4 2; simp at q42; have q43 := hpf.c4 3; simp at q43
        refine (show Leaves _ _ _ _ [] .returning _ from ⟨.tuple #[.agg #[.int .i64 d.k, .int .i64 d.n, .string d.s, .slice d.A d.m d.c], .int .i64 0, .int .i64 0], by simp [results, Tryz.results39, go_sem, *], .agg #[.int .i64 d.k, .int .i64 d.n, .string d.s, .slice d.A d.m d.c], rfl, ?_, ?_⟩)
        · have hkk : ∀ k, w6.heap.size ≤ k → k < w9.heap.size → w13.heap[k]? = w9.heap[k]? := fun k h1 h2 => (hx13.block k (by have := HZ10.out; have := HZN.out; simp; omega)).trans ((by rw [heap_setCell_other _ _ _ _ (by simp only; omega), heap_setCell_other _ _ _ _ (by simp only; omega), heap_setCell_other _ _ _ _ (by simp only; omega), heap_setCell_other _ _ _ _ (by simp only; omega), heap_setCell_other _ _ _ _ (by simp only; omega), heap_setCell_other _ _ _ _ (by simp only; omega)] : _ = wq.heap[k]?).trans ((HKN.out k (by have := HZ10.out; omega)).trans (HK10.out k (by omega))))
          exact ⟨d, rfl, (HV9.out.keep (Nat.le_trans (by have := HZ10.out; have := HZN.out; simp; omega) hx13.lt) (fun k h1 h2 => hkk k h1 h2)).mono (fun k h1 _ => by change _ ≤ k at h1; change _ ≤ k; omega)⟩
        · exact ((((((HXN.out.setCell (p := ⟨w.heap.size, 0, none⟩) (Nat.le_refl _) (.int .i64 d.k)).setCell (p := ⟨w.heap.size, 1, none⟩) (Nat.le_refl _) (.int .i64 d.n)).setCell (p := ⟨w.heap.size, 2, none⟩) (Nat.le_refl _) (.string d.s)).setCell (p := ⟨w.heap.size, 3, none⟩) (Nat.le_refl _) (.slice d.A d.m d.c)).setCell (p := ⟨w.heap.size + 1, 0, none⟩) (by simp) _).setCell (p := ⟨w.heap.size + 2, 0, none⟩) (by simp) _).trans hx13
      · rw [if_neg hk] at hres
        subst hres
        have hkb : (t.kd != 0) = true := by simpa using hk
        have HF := Lib.hid (fun X (hX : Ext w10 X) => pfail_any (hpb.ext hX) 20)
        have HT := Lib.hid ht
        clear hpb hpv hx10 ht hk
        go_upto_region 8 with (fail)
        go_quiet (fail)
        go_wp2_with (first | (go_at_call 73; refine (HF.out _ ((Ext.refl _).drewN _)).mono ?_; rintro e w11 ⟨rfl, hx11⟩))
        have hxx := ((Ext.refl w10).drewN nq).trans hx11
        have hp := HPV10.out.ext hxx
        refine leaves_cons (f := 86) (args := #[.pointer (some ⟨w.heap.size + 3, 0, none⟩), .pointer (some ⟨w.heap.size, 0, none⟩), .pointer (some ⟨w.heap.size + 1, 0, none⟩), .pointer (some ⟨w.heap.size + 2, 0, none⟩)]) (by simp) (by simp [go_sem]) ?_
        refine (catch86_pan (w.heap.size + 3) w.heap.size (w.heap.size + 1) (w.heap.size + 2) (hd (toks.drop a9)).at_ 20 _ _ _ _ _ _ w11 (by omega) (by omega) (by omega) (by omega) (by omega) (by omega) (by rw [hp.c7 0]; rfl) (by rw [hp.c7 1]; rfl) (by rw [hp.c7 2]; rfl) (by rw [hp.c7 3]; rfl) (by rw [hp.c4 0]; rfl) (by rw [hp.c4 1]; rfl) (by rw [hp.c4 2]; rfl) (by rw [hp.c4 3]; rfl) hp.c56.1 hp.c56.2 (hp.f4 0) (hp.f4 1) (hp.f4 2) (hp.f4 3) hp.f56.1 hp.f56.2).mono ?_
        rintro e u' w12 ⟨rfl, rfl, hk4, hk5, hk6, htu⟩
        obtain ⟨hq0, hq1, hq2, hq3⟩ := hk4
        rw [HT.out] at hk5
        refine (show Leaves _ _ _ _ [] .returning _ from ⟨.tuple #[.agg #[.int .i64 0, .int .i64 0, .string ⟨#[]⟩, .slice none 0 0], .int .i64 t.at_, .int .i64 20], by simp [results, Tryz.results39, go_sem, *], .agg #[.int .i64 0, .int .i64 0, .string ⟨#[]⟩, .slice none 0 0], rfl, ⟨⟨0, 0, ⟨#[]⟩, none, 0, 0⟩, rfl, Rep.leaf _ _ 0 0 []⟩, ?_⟩)
        exact htu.ext w (Nat.le_refl _) (by omega) (by omega) (HX10.out.trans hxx)
  · have hb : (LX.e != 0) = true := by simpa using hz
    have hres := HRES.out
    unfold parseG at hres
    rw [if_neg hz] at hres
    clear HRES hz
    subst hres
    have c40 := HP5.out.c4 0; simp at c40; have f40 := HP5.out.f4 0; have c41 := HP5.out.c4 1; simp at c41; have f41 := HP5.out.f4 1; have c42 := HP5.out.c4 2; simp at c42; have f42 := HP5.out.f4 2; have c43 := HP5.out.c4 3; simp at c43; have f43 := HP5.out.f4 3
    have c70 := HP5.out.c7 0; simp at c70; have c71 := HP5.out.c7 1; simp at c71; have c72 := HP5.out.c7 2; simp at c72; have c73 := HP5.out.c7 3; simp at c73
    go_upto_region 4 with (fail)
    go_region
    all_goals
      go_wp2
      refine (show Leaves _ _ _ _ [] .returning _ from ⟨.tuple #[.agg #[.int .i64 0, .int .i64 0, .string ⟨#[]⟩, .slice none 0 0], .int .i64 LX.off, .int .i64 LX.e], by simp [results, Tryz.results39, go_sem, *], .agg #[.int .i64 0, .int .i64 0, .string ⟨#[]⟩, .slice none 0 0], rfl, ⟨⟨0, 0, ⟨#[]⟩, none, 0, 0⟩, rfl, Rep.leaf _ _ 0 0 []⟩, ?_⟩)
      exact (((((((HX5.out).setCell (p := ⟨w.heap.size, 0, none⟩) (by simp) _).setCell (p := ⟨w.heap.size, 1, none⟩) (by simp) _).setCell (p := ⟨w.heap.size, 2, none⟩) (by simp) _).setCell (p := ⟨w.heap.size, 3, none⟩) (by simp) _).setCell (p := ⟨w.heap.size + 1, 0, none⟩) (by simp) _).setCell (p := ⟨w.heap.size + 2, 0, none⟩) (by simp) _).drew
end Go.Proofs.YtnpenepdechkjaaGreatDoor

/- The production's Parse and Expression. -/
namespace Go.Proofs.YtnpenepdechkjaaGreatDoor
open Go Go.RowKit

theorem pParse_any (s : ByteArray) (w : World) (hs : s.size ≤ 281474976710656) (hE : Env13 w) : Calls Tryz.prog 14 #[.string s] w (PaPost (RWl w.heap.size) w (parseR s.data.toList)) := by
  have HC := Lib.hid (show Calls Tryz.prog 33 #[.string s, .func (.func 34) #[] #[]] w (PaPost (RWl w.heap.size) w (parseR s.data.toList)) from pparse33_any s w hs hE)
  obtain ⟨Y, hY⟩ : ∃ Y, Y = parseR s.data.toList := ⟨_, rfl⟩
  rw [← hY] at HC ⊢
  clear hE hY
  go_enter Tryz.func14, Tryz.ntmps14
  go_wp2_with (first | (go_at_call 33; refine (HC.out).mono ?_; rintro e w1 ⟨v, rfl, hv, hx⟩; have HV := Lib.hid hv; have HX := Lib.hid hx; clear hv hx))
  refine bodyPost_ret (v := .tuple #[v, .int .i64 Y.2.1, .int .i64 Y.2.2]) (by simp [results, Tryz.results14, go_sem, *]) rfl ?_
  exact ⟨v, rfl, HV.out, HX.out⟩
theorem pExpr_any (s : ByteArray) (w : World) (hs : s.size ≤ 281474976710656) (hE : Env13 w) : Calls Tryz.prog 18 #[.string s] w (PaPost (RT w.heap.size) w (parseE s.data.toList)) := by
  have hx0 : Ext w (w.alloc (.cells #[.int .i64 0, .int .i64 0, .string ⟨#[]⟩, .slice none 0 0] 31)) := (Ext.refl w).alloc _
  have hn : NX (w.alloc (.cells #[.int .i64 0, .int .i64 0, .string ⟨#[]⟩, .slice none 0 0] 31)) w.heap.size 0 0 ⟨#[]⟩ (.slice none 0 0) := heap_alloc_new _ _
  have HC := Lib.hid (show Calls Tryz.prog 39 #[.string s, .func (.func 40) #[] #[]] (w.alloc (.cells #[.int .i64 0, .int .i64 0, .string ⟨#[]⟩, .slice none 0 0] 31)) (PaPost (RT (w.alloc (.cells #[.int .i64 0, .int .i64 0, .string ⟨#[]⟩, .slice none 0 0] 31)).heap.size) (w.alloc (.cells #[.int .i64 0, .int .i64 0, .string ⟨#[]⟩, .slice none 0 0] 31)) (parseE s.data.toList)) from pparse39_any s _ hs (hE.ext hx0))
  obtain ⟨Y, hY⟩ : ∃ Y, Y = parseE s.data.toList := ⟨_, rfl⟩
  rw [← hY] at HC ⊢
  have HX0 := Lib.hid hx0
  have HN := Lib.hid hn
  have HSZ := Lib.hid (show (w.alloc (.cells #[.int .i64 0, .int .i64 0, .string ⟨#[]⟩, .slice none 0 0] 31)).heap.size = w.heap.size + 1 by simp)
  clear hE hY hx0 hn
  go_enter Tryz.func18, Tryz.ntmps18
  go_wp2_with (first | (go_at_call 39; refine (HC.out).mono ?_; rintro e w1 ⟨v, rfl, ⟨d, rfl, hrep⟩, hx⟩; have HREP := Lib.hid hrep; have HX := Lib.hid hx; obtain ⟨_, j0, j1, j2, j3, jf0, jf1, jf2, jf3⟩ := (NX.mv (b := w.heap.size + 1) HN.out (Mv.of_ext hx) (by omega)).nb; clear hrep hx))
  refine bodyPost_ret (v := .tuple #[.agg #[.int .i64 d.k, .int .i64 d.n, .string d.s, .slice d.A d.m d.c], .int .i64 Y.2.1, .int .i64 Y.2.2]) (by simp [results, Tryz.results18, go_sem, *]) rfl ?_
  exact ⟨_, rfl, ⟨d, rfl, (HREP.out.mono (Q := fun k => w.heap.size + 1 ≤ k) (fun k h1 _ => by change _ ≤ k at h1; have := HSZ.out; omega)).fin (by omega) _ _ _ _⟩, ((((HX0.out.trans HX.out).setCell (p := ⟨w.heap.size, 0, none⟩) (Nat.le_refl _) _).setCell (p := ⟨w.heap.size, 1, none⟩) (Nat.le_refl _) _).setCell (p := ⟨w.heap.size, 2, none⟩) (Nat.le_refl _) _).setCell (p := ⟨w.heap.size, 3, none⟩) (Nat.le_refl _) _⟩
end Go.Proofs.YtnpenepdechkjaaGreatDoor

/- Trees: equality, size. -/
namespace Go.Proofs.YtnpenepdechkjaaGreatDoor
open Go

mutual
def eqT : Tr → Tr → Bool
  | .nd k n s ks, .nd k' n' s' ks' => decide (k = k') && (decide (n = n') && (decide (s = s') && eqTs ks ks'))
def eqTs : List Tr → List Tr → Bool
  | [], [] => true
  | a :: r, b :: r2 => eqT a b && eqTs r r2
  | _, _ => false
end
mutual
def tsz : Tr → Nat
  | .nd _ _ _ ks => 1 + tszs ks
def tszs : List Tr → Nat
  | [] => 0
  | t :: ts => tsz t + tszs ts
end
mutual
theorem eqT_iff : ∀ (a b : Tr), eqT a b = true ↔ a = b
  | .nd k n s ks, .nd k' n' s' ks' => by
    have h := eqTs_iff ks ks'
    simp only [eqT, Bool.and_eq_true, decide_eq_true_eq, h, Tr.nd.injEq]
theorem eqTs_iff : ∀ (a b : List Tr), eqTs a b = true ↔ a = b
  | [], [] => by simp [eqTs]
  | [], _ :: _ => by simp [eqTs]
  | _ :: _, [] => by simp [eqTs]
  | a :: r, b :: r2 => by
    have h1 := eqT_iff a b
    have h2 := eqTs_iff r r2
    simp only [eqTs, Bool.and_eq_true, h1, h2, List.cons.injEq]
end
theorem tsz_mem {t : Tr} {ts : List Tr} (h : t ∈ ts) : tsz t ≤ tszs ts := by
  induction ts with
  | nil => cases h
  | cons a ts ih =>
    simp only [tszs]
    rcases List.mem_cons.1 h with rfl | h
    · omega
    · have := ih h; omega
theorem len_tszs : ∀ ts : List Tr, ts.length ≤ tszs ts
  | [] => Nat.le_refl _
  | t :: ts => by
    have := len_tszs ts
    have h : 1 ≤ tsz t := by cases t; simp [tsz]
    simp only [tszs, List.length_cons]; omega
theorem eqTs_len : ∀ {a b : List Tr}, a.length ≠ b.length → eqTs a b = false := fun {a b} h => by
  cases hh : eqTs a b with
  | false => rfl
  | true => exact absurd (congrArg List.length ((eqTs_iff a b).1 hh)) h
theorem eqTs_at : ∀ {a b : List Tr} {k : Nat} {x y : Tr}, a[k]? = some x → b[k]? = some y → eqT x y = false → eqTs a b = false := fun {a b k x y} h1 h2 h => by
  cases hh : eqTs a b with
  | false => rfl
  | true =>
    have e := (eqTs_iff a b).1 hh
    subst e
    rw [h1] at h2
    injection h2 with h2
    rw [(eqT_iff x y).2 h2] at h; cases h
theorem eqTs_all {a b : List Tr} (hl : a.length = b.length) (h : a.take a.length = b.take a.length) : eqTs a b = true := by
  rw [eqTs_iff]
  rw [List.take_length, hl, List.take_length] at h
  exact h
end Go.Proofs.YtnpenepdechkjaaGreatDoor

/- The reference's Same. -/
namespace Go.Proofs.YtnpenepdechkjaaGreatDoor
open Go Go.RowKit

def BQ2 (v : Bool) (w : World) (e : Ending) (w' : World) : Prop := e = .returned (.bool v) ∧ Ext w w'
/-- The kid at a place, in memory. -/
theorem Rep.kid {W : World} {P : Nat → Prop} {d : Nd} {k n : Int} {s : List UInt8} {ks : List Tr} (h : Rep W P d (.nd k n s ks)) {i : Nat} (hi : i < ks.length) :
    ∃ (g off : Nat) (d' : Nd) (t : Tr), d.A = some ⟨g, off, none⟩ ∧ g < W.heap.size ∧ ks[i]? = some t ∧ t ∈ ks ∧ Rep W P d' t ∧ W.cell? ⟨g, off + i * 4, none⟩ = some (.int .i64 d'.k) ∧ W.cell? ⟨g, off + i * 4 + 1, none⟩ = some (.int .i64 d'.n) ∧
      W.cell? ⟨g, off + i * 4 + 2, none⟩ = some (.string d'.s) ∧ W.cell? ⟨g, off + i * 4 + 3, none⟩ = some (.slice d'.A d'.m d'.c) := by
  cases h with
  | mk k n s A c hs ks h0 h1 h2 h3 =>
    obtain ⟨g, off, e, hg, hc⟩ := h1.2 (by omega)
    have hd : hs[i]? = some hs[i] := List.getElem?_eq_getElem (by omega)
    have ht : ks[i]? = some ks[i] := List.getElem?_eq_getElem hi
    refine ⟨g, off, hs[i], ks[i], e, hg, ht, List.mem_of_getElem? ht, h3 i _ _ hd ht, ?_, hc i _ hd 1 _ rfl, hc i _ hd 2 _ rfl, hc i _ hd 3 _ rfl⟩
    have := hc i _ hd 0 _ rfl
    rwa [Nat.add_zero] at this
theorem Rep.fields {W : World} {P : Nat → Prop} {d : Nd} {k n : Int} {s : List UInt8} {ks : List Tr} (h : Rep W P d (.nd k n s ks)) : d.k = k ∧ d.n = n ∧ d.s = bs s ∧ d.m = ks.length := by
  cases h with
  | mk k n s A c hs ks h0 h1 h2 h3 => exact ⟨rfl, rfl, rfl, h2⟩
def SmRel (W : World) (a b : List Tr) (s5 : Value) (X : World) : Prop := ∃ k : Nat, k ≤ a.length ∧ s5 = .int .i64 k ∧ a.take k = b.take k ∧ Ext W X
set_option maxHeartbeats 2000000 in
set_option maxRecDepth 100000 in
theorem same_any : ∀ (N : Nat) (a b : Tr) (d f : Nd) (P Q : Nat → Prop) (W : World), tsz a ≤ N → tsz a ≤ 1000000 → tsz b ≤ 1000000 → Rep W P d a → Rep W Q f b →
    Calls Tryz.prog 20 #[.agg #[.int .i64 d.k, .int .i64 d.n, .string d.s, .slice d.A d.m d.c], .agg #[.int .i64 f.k, .int .i64 f.n, .string f.s, .slice f.A f.m f.c]] W (BQ2 (eqT a b) W) := by
  intro N
  induction N with
  | zero => intro a _ _ _ _ _ _ h; cases a; simp [tsz] at h
  | succ N ih =>
    intro a b d f P Q W hN ha hb hd hf
    obtain ⟨k, n, s, ks⟩ := a
    obtain ⟨k', n', s', ks'⟩ := b
    obtain ⟨e1, e2, e3, e4⟩ := hd.fields
    obtain ⟨g1, g2, g3, g4⟩ := hf.fields
    have hl := len_tszs ks
    have hl' := len_tszs ks'
    simp only [tsz] at hN ha hb
    have HD := Lib.hid hd
    have HF := Lib.hid hf
    have HIH := Lib.hid ih
    clear ih hd hf
    obtain ⟨dk, dn, ds, dA, dm, dc⟩ := d
    obtain ⟨fk, fn, fs, fA, fm, fc⟩ := f
    simp only at e1 e2 e3 e4 g1 g2 g3 g4 ⊢
    subst e1 e2 e4 g1 g2 g4
    have hx0 : Ext W ((W.alloc (.cells #[.int .i64 dk, .int .i64 dn, .string ds, .slice dA ks.length dc] 31)).alloc (.cells #[.int .i64 fk, .int .i64 fn, .string fs, .slice fA ks'.length fc] 31)) := ((Ext.refl W).alloc _).alloc _
    have hna : NX ((W.alloc (.cells #[.int .i64 dk, .int .i64 dn, .string ds, .slice dA ks.length dc] 31)).alloc (.cells #[.int .i64 fk, .int .i64 fn, .string fs, .slice fA ks'.length fc] 31)) W.heap.size dk dn ds (.slice dA ks.length dc) := NX.mv (b := W.heap.size + 1) (heap_alloc_new _ _) (Mv.of_ext ((Ext.refl _).alloc _)) (by omega)
    have hnb : NX ((W.alloc (.cells #[.int .i64 dk, .int .i64 dn, .string ds, .slice dA ks.length dc] 31)).alloc (.cells #[.int .i64 fk, .int .i64 fn, .string fs, .slice fA ks'.length fc] 31)) (W.heap.size + 1) fk fn fs (.slice fA ks'.length fc) := by
      have := heap_alloc_new (W.alloc (.cells #[.int .i64 dk, .int .i64 dn, .string ds, .slice dA ks.length dc] 31)) (.cells #[.int .i64 fk, .int .i64 fn, .string fs, .slice fA ks'.length fc] 31)
      simpa [NX] using this
    obtain ⟨v, hv⟩ : ∃ v, v = eqT (.nd dk dn s ks) (.nd fk fn s' ks') := ⟨_, rfl⟩
    rw [← hv]
    simp only [eqT] at hv
    have HE3 := Lib.hid e3
    have HG3 := Lib.hid g3
    clear e3 g3
    go_enter Tryz.func20, Tryz.ntmps20
    go_upto_region 1 with (fail)
    have HX0 := Lib.hid hx0
    have HNA := Lib.hid hna
    have HNB := Lib.hid hnb
    generalize (W.alloc (.cells #[.int .i64 dk, .int .i64 dn, .string ds, .slice dA ks.length dc] 31)).alloc (.cells #[.int .i64 fk, .int .i64 fn, .string fs, .slice fA ks'.length fc] 31) = w2 at *
    clear hx0 hna hnb
    generalize W.heap.size = ga at *
    obtain ⟨_, k0, k1, k2, k3, _, _, _, _⟩ := HNA.out.nb
    obtain ⟨_, j0, j1, j2, j3, _, _, _, _⟩ := HNB.out.nb
    have c1 : ¬ dk = fk → v = false := fun h => by rw [hv]; simp [h]
    have c2 : ¬ dn = fn → v = false := fun h => by rw [hv]; simp [h]
    have c3 : ¬ s = s' → v = false := fun h => by rw [hv]; simp [h]
    have c4 : ¬ ks.length = ks'.length → v = false := fun h => by rw [hv, eqTs_len h]; simp
    have c5 : dk = fk → dn = fn → s = s' → v = eqTs ks ks' := fun h1 h2 h3 => by rw [hv]; simp [h1, h2, h3]
    have C5 := Lib.hid c5
    clear hv c5
    by_cases q1 : dk = fk
    case neg =>
      have t1 : (dk != fk) = true := by simpa using q1
      have HV := Lib.hid (c1 q1)
      clear c1 c2 c3 c4 q1
      go_wp2
      go_ret
      exact ⟨ret_bool HV.out.symm, HX0.out⟩
    have t1 : (dk != fk) = false := by simp [q1]
    by_cases q2 : dn = fn
    case neg =>
      have t2 : (dn != fn) = true := by simpa using q2
      have HV := Lib.hid (c2 q2)
      clear c1 c2 c3 c4 q1 q2
      go_wp2
      go_ret
      exact ⟨ret_bool HV.out.symm, HX0.out⟩
    have t2 : (dn != fn) = false := by simp [q2]
    by_cases q3 : s = s'
    case neg =>
      have t3 := bs_ne HE3.out HG3.out q3
      have HV := Lib.hid (c3 q3)
      clear c1 c2 c3 c4 q1 q2 q3
      go_wp2
      go_ret
      exact ⟨ret_bool HV.out.symm, HX0.out⟩
    have t3 := bs_eq HE3.out HG3.out q3
    by_cases q4 : ks.length = ks'.length
    case neg =>
      have t4 : ((ks.length : Int) != (ks'.length : Int)) = true := by rw [bne_iff_ne]; omega
      have HV := Lib.hid (c4 q4)
      clear c1 c2 c3 c4 q1 q2 q3 q4
      go_wp2
      go_ret
      exact ⟨ret_bool HV.out.symm, HX0.out⟩
    have t4 : ((ks.length : Int) != (ks'.length : Int)) = false := by simp [q4]
    have HV := Lib.hid (C5.out q1 q2 q3)
    have HL := Lib.hid q4
    clear c1 c2 c3 c4 q1 q2 q3 q4 C5
    go_upto_region 3 with (fail)
    go_wp2_with fail
    go_loopw [5] (fun s5 X => SmRel w2 ks ks' s5 X) (fun s5 _ => toM ks.length s5)
    case atStart => exact ⟨0, Nat.zero_le _, rfl, rfl, Ext.refl _⟩
    case round =>
      clear k0 k1 k2 k3 j0 j1 j2 j3 t1 t2 t3 t4
      obtain ⟨k, hk, rfl, htk, hx⟩ := hrel
      have HTK := Lib.hid htk
      have HYtnpenepdechkjaaGreatDoor := Lib.hid (HX0.out.trans hx)
      obtain ⟨_, _, _, _, k3, _, _, _, _⟩ := (NX.mv (b := ga + 2) HNA.out (Mv.of_ext hx) (by omega)).nb
      obtain ⟨_, _, _, _, j3, _, _, _, _⟩ := (NX.mv (b := ga + 2) HNB.out (Mv.of_ext hx) (by omega)).nb
      by_cases hlt : k < ks.length
      · have hlt2 : k < ks'.length := by rw [← HL.out]; exact hlt
        have hI1 : (k : Int) < (ks.length : Int) := by omega
        have hI2 : (k : Int) < (ks'.length : Int) := by omega
        obtain ⟨g1, o1, d1, t1, hA1, hg1, ht1, hm1, hr1, p0, p1, p2, p3⟩ := (HD.out.ext HYtnpenepdechkjaaGreatDoor.out).kid hlt
        obtain ⟨g2, o2, d2, t2, hA2, hg2, ht2, hm2, hr2, r0, r1, r2, r3⟩ := (HF.out.ext HYtnpenepdechkjaaGreatDoor.out).kid hlt2
        simp only at hA1 hA2
        rw [hA1] at k3
        rw [hA2] at j3
        have HC := Lib.hid (fun X (hX : Ext wr X) => HIH.out t1 t2 d1 d2 P Q X (by have := tsz_mem hm1; omega) (by have := tsz_mem hm1; omega) (by have := tsz_mem hm2; omega) (hr1.ext hX) (hr2.ext hX))
        have HT1 := Lib.hid ht1
        have HT2 := Lib.hid ht2
        clear hA1 hA2 hg1 hg2 ht1 ht2 hm1 hm2 hr1 hr2 htk
        cases hq : eqT t1 t2 with
        | false =>
          rw [hq] at HC
          have HQ := Lib.hid hq
          clear hq
          go_wp2
          go_still_tail 10, (by kernel_rfl)
          change wpList _ _ _ _ _ wr.drew
          go_wp2_with (first | (go_at_call 20; refine (HC.out _ (Ext.refl _).drew).mono ?_; rintro e w5 ⟨rfl, hx5⟩))
          go_ret
          exact ⟨ret_bool (HV.out.trans (eqTs_at HT1.out HT2.out HQ.out)).symm, (HYtnpenepdechkjaaGreatDoor.out.trans (Ext.refl _).drew).trans hx5⟩
        | true =>
          rw [hq] at HC
          have HQ := Lib.hid ((eqT_iff _ _).1 hq)
          clear hq
          go_wp2
          go_still_tail 10, (by kernel_rfl)
          change wpList _ _ _ _ _ wr.drew
          go_wp2_with (first | (go_at_call 20; refine (HC.out _ (Ext.refl _).drew).mono ?_; rintro e w5 ⟨rfl, hx5⟩))
          refine ⟨⟨k + 1, by omega, by simp, ?_, (hx.trans (Ext.refl _).drew).trans hx5⟩, by simp only [toM]; omega⟩
          rw [List.take_add_one, List.take_add_one, HT1.out, HT2.out, HTK.out, HQ.out]
      · obtain rfl : k = ks.length := by omega
        have hni : ¬ ((ks.length : Int) < (ks.length : Int)) := by omega
        go_wp2
        go_ret
        exact ⟨ret_bool (HV.out.trans (eqTs_all HL.out HTK.out)).symm, HYtnpenepdechkjaaGreatDoor.out⟩
end Go.Proofs.YtnpenepdechkjaaGreatDoor

/- Plain law: the date of a day, and back. -/
namespace Go.Proofs.YtnpenepdechkjaaGreatDoor
open Go

/-- The days of a cycle ahead of a year of it, which begins in March. -/
def eS (y : Nat) : Nat := 365 * y + y / 4 - y / 100
def eN (d : Nat) : Nat := d - d / 1460 + d / 36524 - d / 146096
def eHi (y : Nat) : Nat := if y = 399 then 146096 else eS (y + 1) - 1
theorem eN_mono {a b : Nat} (h : a ≤ b) (hb : b ≤ 146096) : eN a ≤ eN b := by
  unfold eN; omega
theorem ends : ((List.range 400).all fun y => decide (eN (eS y) / 365 = y) && decide (eN (eHi y) / 365 = y)) = true := by decide +kernel
theorem ends_at {y : Nat} (h : y < 400) : eN (eS y) / 365 = y ∧ eN (eHi y) / 365 = y := by
  have := List.all_eq_true.1 ends y (List.mem_range.2 h)
  simpa using this
theorem eS_hi {y : Nat} (h : y < 399) : eHi y + 1 = eS (y + 1) := by
  unfold eHi; rw [if_neg (by omega)]
  unfold eS; omega
theorem yoe_ok {d : Nat} (hd : d ≤ 146096) : eN d / 365 ≤ 399 ∧ eS (eN d / 365) ≤ d ∧ d ≤ eHi (eN d / 365) := by
  have h1 : eN d / 365 ≤ 399 := by
    have := eN_mono hd (Nat.le_refl _)
    have h2 : eN 146096 = 145999 := by decide
    omega
  refine ⟨h1, ?_, ?_⟩
  · rcases Nat.lt_or_ge d (eS (eN d / 365)) with h | h
    · exfalso
      by_cases h0 : eN d / 365 = 0
      · rw [h0] at h; simp [eS] at h
      · obtain ⟨y, hy⟩ : ∃ y, eN d / 365 = y + 1 := ⟨eN d / 365 - 1, by omega⟩
        have h2 := eS_hi (y := y) (by omega)
        rw [hy] at h
        have h3 := eN_mono (show d ≤ eHi y by omega) (by unfold eS at h2; omega)
        have h4 := (ends_at (y := y) (by omega)).2
        omega
    · exact h
  · rcases Nat.lt_or_ge (eHi (eN d / 365)) d with h | h
    · exfalso
      by_cases h0 : eN d / 365 = 399
      · rw [h0] at h; simp [eHi] at h; omega
      · have h2 := eS_hi (y := eN d / 365) (by omega)
        have h3 := eN_mono (show eS (eN d / 365 + 1) ≤ d by omega) hd
        have h4 := (ends_at (y := eN d / 365 + 1) (by omega)).1
        omega
    · exact h
/-- The year (of March), the month and the day of a day; as the code reckons. -/
def ofD (d : Nat) : Nat × Nat × Nat :=
  let z := d + 306
  let doe := z % 146097
  let yoe := eN doe / 365
  let doy := doe - eS yoe
  let m := (5 * doy + 2) / 153
  let y := yoe + 400 * (z / 146097)
  let dd := doy - (153 * m + 2) / 5 + 1
  if m ≥ 10 then (y + 1, m - 9, dd) else (y, m + 3, dd)
theorem mlen_at (y m : Nat) (h1 : 1 ≤ m) (h2 : m ≤ 12) : mlen y m = if m = 2 then (if leap y then 29 else 28) else if m = 4 ∨ m = 6 ∨ m = 9 ∨ m = 11 then 30 else 31 := by
  rw [mlen]
  by_cases h : m = 2
  · rw [if_pos h, if_pos h]
  · rw [if_neg h, if_neg h]
    by_cases h3 : m = 4 ∨ m = 6 ∨ m = 9 ∨ m = 11
    · rw [if_pos h3, if_pos h3]
    · rw [if_neg h3, if_neg h3, if_pos ⟨h1, h2⟩]
theorem leap_iff (y : Nat) : leap y = true ↔ (y % 4 = 0 ∧ (y % 100 ≠ 0 ∨ y % 400 = 0)) := by
  unfold leap; simp
theorem ofD_ok {d : Nat} (hd : d ≤ 3652058) : dateB (ofD d).1 (ofD d).2.1 (ofD d).2.2 = true ∧ dayNo (ofD d).1 (ofD d).2.1 (ofD d).2.2 = d := by
  obtain ⟨era, he⟩ : ∃ e, e = (d + 306) / 146097 := ⟨_, rfl⟩
  obtain ⟨doe, hdoe⟩ : ∃ e, e = (d + 306) % 146097 := ⟨_, rfl⟩
  have hz : d + 306 = 146097 * era + doe := by omega
  have hdl : doe ≤ 146096 := by omega
  obtain ⟨y1, y2, y3⟩ := yoe_ok hdl
  obtain ⟨yoe, hyoe⟩ : ∃ y, y = eN doe / 365 := ⟨_, rfl⟩
  rw [← hyoe] at y1 y2 y3
  obtain ⟨doy, hdoy⟩ : ∃ y, y = doe - eS yoe := ⟨_, rfl⟩
  have hdd : doe = eS yoe + doy := by omega
  have hlp : doy ≤ 364 ∨ (doy = 365 ∧ leap (yoe + 400 * era + 1) = true) := by
    by_cases h9 : yoe = 399
    · subst h9
      have e1 : eS 399 = 145731 := by decide
      have e2 : eHi 399 = 146096 := by decide
      by_cases h5 : doy = 365
      · exact .inr ⟨h5, (leap_iff _).2 (by omega)⟩
      · exact .inl (by omega)
    · have h2 := eS_hi (y := yoe) (by omega)
      by_cases h5 : doy ≤ 364
      · exact .inl h5
      · have a1 : (yoe + 1) / 4 = yoe / 4 + (if (yoe + 1) % 4 = 0 then 1 else 0) := by split <;> omega
        have a2 : (yoe + 1) / 100 = yoe / 100 + (if (yoe + 1) % 100 = 0 then 1 else 0) := by split <;> omega
        have h6 : doy = 365 ∧ (yoe + 1) % 4 = 0 ∧ ¬ (yoe + 1) % 100 = 0 := by
          unfold eS at h2 hdd
          rw [a1, a2] at h2
          by_cases b1 : (yoe + 1) % 4 = 0
          · by_cases b2 : (yoe + 1) % 100 = 0
            · rw [if_pos b1, if_pos b2] at h2; omega
            · rw [if_pos b1, if_neg b2] at h2; omega
          · by_cases b2 : (yoe + 1) % 100 = 0
            · omega
            · rw [if_neg b1, if_neg b2] at h2; omega
        exact .inr ⟨h6.1, (leap_iff _).2 (by omega)⟩
  have hof : ofD d = if (5 * doy + 2) / 153 ≥ 10 then (yoe + 400 * era + 1, (5 * doy + 2) / 153 - 9, doy - (153 * ((5 * doy + 2) / 153) + 2) / 5 + 1) else (yoe + 400 * era, (5 * doy + 2) / 153 + 3, doy - (153 * ((5 * doy + 2) / 153) + 2) / 5 + 1) := by
    rw [hdoy, hyoe, hdoe, he]; rfl
  have hera : era ≤ 25 := by omega
  have hS : eS yoe ≤ 145731 := by unfold eS; omega
  obtain ⟨m, hm⟩ : ∃ m, m = (5 * doy + 2) / 153 := ⟨_, rfl⟩
  rw [← hm] at hof
  have hm11 : m ≤ 11 := by omega
  have hmar : 365 * (yoe + 400 * era) + (yoe + 400 * era) / 4 - (yoe + 400 * era) / 100 + (yoe + 400 * era) / 400 = 146097 * era + eS yoe := by unfold eS; omega
  have hd1 : (153 * m + 2) / 5 ≤ doy := by omega
  have hval : marN (yoe + 400 * era) m (doy - (153 * m + 2) / 5 + 1) = (d : Int) := by
    unfold marN; omega
  by_cases h10 : m ≥ 10
  · rw [hof, if_pos h10]
    show dateB (yoe + 400 * era + 1) (m - 9) (doy - (153 * m + 2) / 5 + 1) = true ∧ dayNo (yoe + 400 * era + 1) (m - 9) (doy - (153 * m + 2) / 5 + 1) = d
    have hy : yoe + 400 * era + 1 ≤ 9999 := by
      have := hmar
      omega
    have hml : doy - (153 * m + 2) / 5 + 1 ≤ mlen (yoe + 400 * era + 1) (m - 9) := by
      rw [mlen_at _ _ (by omega) (by omega)]
      by_cases hf : m - 9 = 2
      · rw [if_pos hf]
        rcases hlp with h | ⟨h1, h2⟩
        · split <;> omega
        · rw [if_pos h2]; omega
      · rw [if_neg hf, if_neg (by omega)]; omega
    refine ⟨?_, ?_⟩
    · simp only [dateB, Bool.and_eq_true, decide_eq_true_eq]
      exact ⟨by omega, hy, by omega, by omega, by omega, hml⟩
    · have := dayNo_mar (y := yoe + 400 * era + 1) (m := m - 9) (d := doy - (153 * m + 2) / 5 + 1) (by omega) (by omega) (by omega) (by omega)
      rw [if_pos (by omega), show yoe + 400 * era + 1 - 1 = yoe + 400 * era by omega, show m - 9 + 9 = m by omega, hval] at this
      omega
  · rw [hof, if_neg h10]
    show dateB (yoe + 400 * era) (m + 3) (doy - (153 * m + 2) / 5 + 1) = true ∧ dayNo (yoe + 400 * era) (m + 3) (doy - (153 * m + 2) / 5 + 1) = d
    have hy0 : 1 ≤ yoe + 400 * era := by
      rcases Nat.eq_zero_or_pos (yoe + 400 * era) with h | h
      · exfalso
        have h1 : yoe = 0 := by omega
        have h2 : era = 0 := by omega
        subst h1 h2
        have : eS 0 = 0 := by decide
        omega
      · exact h
    have hy : yoe + 400 * era ≤ 9999 := by
      have := hmar
      omega
    have hml : doy - (153 * m + 2) / 5 + 1 ≤ mlen (yoe + 400 * era) (m + 3) := by
      rw [mlen_at _ _ (by omega) (by omega), if_neg (by omega)]
      rcases (by omega : m = 0 ∨ m = 1 ∨ m = 2 ∨ m = 3 ∨ m = 4 ∨ m = 5 ∨ m = 6 ∨ m = 7 ∨ m = 8 ∨ m = 9) with h | h | h | h | h | h | h | h | h | h <;> (rw [h]; split <;> omega)
    refine ⟨?_, ?_⟩
    · simp only [dateB, Bool.and_eq_true, decide_eq_true_eq]
      exact ⟨hy0, hy, by omega, by omega, by omega, hml⟩
    · have := dayNo_mar (y := yoe + 400 * era) (m := m + 3) (d := doy - (153 * m + 2) / 5 + 1) hy0 (by omega) (by omega) (by omega)
      rw [if_neg (by omega), show m + 3 - 3 = m by omega, hval] at this
      omega
end Go.Proofs.YtnpenepdechkjaaGreatDoor

/- The contract of date.Of. -/
namespace Go.Proofs.YtnpenepdechkjaaGreatDoor
open Go Go.RowKit

def OfPost (d : Nat) (w : World) (e : Ending) (w' : World) : Prop :=
  e = .returned (.tuple #[.agg #[.int .i64 ((ofD d).1 : Nat), .int .i64 ((ofD d).2.1 : Nat), .int .i64 ((ofD d).2.2 : Nat)], .int .i64 0]) ∧ Ext w w'
theorem ofD_parts (d era doe yoe doy m : Nat) (h1 : era = (d + 306) / 146097) (h2 : doe = (d + 306) % 146097) (h3 : yoe = eN doe / 365) (h4 : doy = doe - eS yoe) (h5 : m = (5 * doy + 2) / 153) :
    ofD d = if m ≥ 10 then (yoe + 400 * era + 1, m - 9, doy - (153 * m + 2) / 5 + 1) else (yoe + 400 * era, m + 3, doy - (153 * m + 2) / 5 + 1) := by
  rw [h5, h4, h3, h2, h1]; rfl
set_option maxHeartbeats 4000000 in
set_option maxRecDepth 100000 in
theorem of_any (d : Nat) (w : World) (hd : d ≤ 3652058) : Calls Tryz.prog 101 #[.int .i64 d] w (OfPost d w) := by
  obtain ⟨era, he⟩ : ∃ e, e = (d + 306) / 146097 := ⟨_, rfl⟩
  obtain ⟨doe, hdoe⟩ : ∃ e, e = (d + 306) % 146097 := ⟨_, rfl⟩
  obtain ⟨yoe, hyoe⟩ : ∃ y, y = eN doe / 365 := ⟨_, rfl⟩
  obtain ⟨doy, hdoy⟩ : ∃ y, y = doe - eS yoe := ⟨_, rfl⟩
  obtain ⟨m, hm⟩ : ∃ y, y = (5 * doy + 2) / 153 := ⟨_, rfl⟩
  have hof := ofD_parts d era doe yoe doy m he hdoe hyoe hdoy hm
  have hdl : doe ≤ 146096 := by omega
  obtain ⟨y1, y2, y3⟩ := yoe_ok hdl
  rw [← hyoe] at y1 y2 y3
  have hHi : eHi yoe ≤ eS yoe + 365 := by
    unfold eHi
    split
    · rename_i h; rw [h]; decide
    · unfold eS; omega
  have hera : era ≤ 25 := by omega
  have hdy : doy ≤ 365 := by omega
  have hm11 : m ≤ 11 := by omega
  have hd1 : (153 * m + 2) / 5 ≤ doy := by omega
  have g0 : ¬ (d : Int) < 0 := by omega
  have g1 : ¬ (3652058 : Int) < (d : Int) := by omega
  have e1 : ((d : Int) + 306) / 146097 = (era : Int) := by omega
  have e2 : ((d : Int) + 306) % 146097 = (doe : Int) := by omega
  have e3 : ((doe : Int) - (doe : Int) / 1460 + (doe : Int) / 36524 - (doe : Int) / 146096) / 365 = (yoe : Int) := by rw [hyoe]; unfold eN; omega
  have e4 : (doe : Int) - (365 * (yoe : Int) + (yoe : Int) / 4 - (yoe : Int) / 100) = (doy : Int) := by rw [hdoy]; unfold eS at y2 ⊢; omega
  have e5 : (5 * (doy : Int) + 2) / 153 = (m : Int) := by omega
  have E1 := Lib.hid e1
  have E2 := Lib.hid e2
  have E3 := Lib.hid e3
  have E4 := Lib.hid e4
  have E5 := Lib.hid e5
  have HOF := Lib.hid hof
  have HD1 := Lib.hid hd1
  clear e1 e2 e3 e4 e5 hof hm hdoy hyoe hdoe he y2 y3 hHi hd1
  go_enter Tryz.func101, Tryz.ntmps101
  go_upto_region 6 with (fail)
  rw [E1.out, E2.out]
  go_upto_region 7 with (fail)
  rw [E3.out]
  go_upto_region 8 with (fail)
  rw [E4.out]
  go_upto_region 9 with (fail)
  rw [E5.out]
  by_cases h10 : 10 ≤ m
  · have h10I : (10 : Int) ≤ (m : Int) := by omega
    have HF := Lib.hid (show ofD d = (yoe + 400 * era + 1, m - 9, doy - (153 * m + 2) / 5 + 1) by rw [HOF.out, if_pos h10])
    have HF1 := Lib.hid (show (yoe : Int) + 400 * (era : Int) + 1 = ((yoe + 400 * era + 1 : Nat) : Int) by omega)
    have HF2 := Lib.hid (show (m : Int) - 9 = ((m - 9 : Nat) : Int) by omega)
    have HF3 := Lib.hid (show (doy : Int) - (153 * (m : Int) + 2) / 5 + 1 = ((doy - (153 * m + 2) / 5 + 1 : Nat) : Int) by have := HD1.out; omega)
    clear h10
    go_wp2
    refine bodyPost_ret (v := .tuple #[.agg #[.int .i64 ((yoe : Int) + 400 * (era : Int) + 1), .int .i64 ((m : Int) - 9), .int .i64 ((doy : Int) - (153 * (m : Int) + 2) / 5 + 1)], .int .i64 0]) (by simp [results, Tryz.results101, go_sem, *]) rfl ?_
    refine ⟨by rw [HF.out, HF1.out, HF2.out, HF3.out], ?_⟩
    repeat (first | exact Ext.refl _ | apply Ext.alloc)
  · have h10I : ¬ (10 : Int) ≤ (m : Int) := by omega
    have HF := Lib.hid (show ofD d = (yoe + 400 * era, m + 3, doy - (153 * m + 2) / 5 + 1) by rw [HOF.out, if_neg h10])
    have HF1 := Lib.hid (show (yoe : Int) + 400 * (era : Int) = ((yoe + 400 * era : Nat) : Int) by omega)
    have HF2 := Lib.hid (show (m : Int) + 3 = ((m + 3 : Nat) : Int) by omega)
    have HF3 := Lib.hid (show (doy : Int) - (153 * (m : Int) + 2) / 5 + 1 = ((doy - (153 * m + 2) / 5 + 1 : Nat) : Int) by have := HD1.out; omega)
    clear h10
    go_wp2
    refine bodyPost_ret (v := .tuple #[.agg #[.int .i64 ((yoe : Int) + 400 * (era : Int)), .int .i64 ((m : Int) + 3), .int .i64 ((doy : Int) - (153 * (m : Int) + 2) / 5 + 1)], .int .i64 0]) (by simp [results, Tryz.results101, go_sem, *]) rfl ?_
    refine ⟨by rw [HF.out, HF1.out, HF2.out, HF3.out], ?_⟩
    repeat (first | exact Ext.refl _ | apply Ext.alloc)
end Go.Proofs.YtnpenepdechkjaaGreatDoor

/- The contracts of the reference's Same and Alike, of Short, Around, and of the law's 'wrong'. -/
namespace Go.Proofs.YtnpenepdechkjaaGreatDoor
open Go Go.RowKit

theorem SL.at {α : Type} {cf : α → List Value} {sz : Nat} {W : World} {A : Option Addr} {m : Nat} {l : List α} (h : SL cf sz W A m l) {k : Nat} (hk : k < m) :
    ∃ b off a, A = some ⟨b, off, none⟩ ∧ b < W.heap.size ∧ l[k]? = some a ∧ a ∈ l ∧ ∀ j u, (cf a)[j]? = some u → W.cell? ⟨b, off + k * sz + j, none⟩ = some u := by
  obtain ⟨b, off, rfl, hb, hc⟩ := h.2 (by omega)
  have hl : k < l.length := by rw [← h.1]; exact hk
  exact ⟨b, off, l[k], rfl, hb, List.getElem?_eq_getElem hl, List.getElem_mem hl, fun j u hu => hc k _ (List.getElem?_eq_getElem hl) j u hu⟩
/-- A token among the elements of a slice. -/
theorem SL.tok {W : World} {A : Option Addr} {m : Nat} {l : List Tk} (h : SL tcf 4 W A m l) {k : Nat} (hk : k < m) :
    ∃ b off t, A = some ⟨b, off, none⟩ ∧ b < W.heap.size ∧ l[k]? = some t ∧ W.cell? ⟨b, off + k * 4, none⟩ = some (.int .i64 t.kd) ∧ W.cell? ⟨b, off + k * 4 + 1, none⟩ = some (.int .i64 t.at_) ∧
      W.cell? ⟨b, off + k * 4 + 2, none⟩ = some (.string ⟨t.tx.toArray⟩) ∧ W.cell? ⟨b, off + k * 4 + 3, none⟩ = some (.int .i64 t.nm) := by
  obtain ⟨b, off, t, h1, h2, h3, _, h5⟩ := h.at hk
  exact ⟨b, off, t, h1, h2, h3, h5 0 _ rfl, h5 1 _ rfl, h5 2 _ rfl, h5 3 _ rfl⟩
end Go.Proofs.YtnpenepdechkjaaGreatDoor

/- The contracts of both Shows. -/
namespace Go.Proofs.YtnpenepdechkjaaGreatDoor
open Go Go.RowKit

def scf (b : List UInt8) : List Value := [.string ⟨b.toArray⟩]
theorem scf_len (b : List UInt8) : (scf b).length = 1 := rfl
theorem scf_one (b : List UInt8) : ∀ u ∈ scf b, u.oneCell' = true := fun u hu => by
  simp only [scf, List.mem_cons, List.not_mem_nil, or_false] at hu
  subst hu; rfl
theorem info9 : (Tryz.prog.info? 9).map (fun i => (i.zero, i.size, i.bytes)) = some (some (.string ⟨#[]⟩), 1, 16) := by kernel_rfl
theorem ap39_one (X : World) {base : Nat} {v : Value} {l : List (List UInt8)} (ho : OL scf 1 X base 9 v l) (x : List UInt8) (b : Nat) (hb : b = X.heap.size) (hm : l.length ≤ 10000000) (hbase : base ≤ X.heap.size) :
    ∃ A' c' w', (Builtin.append_ #[48, 48] 48 #[v, .slice (some ⟨b, 0, none⟩) 1 1]).run Tryz.prog (X.alloc (.cells #[.string ⟨x.toArray⟩] 9)) = .ok (.slice A' (l.length + 1) c') w' ∧
      OL scf 1 w' base 9 (.slice A' (l.length + 1) c') (l ++ [x]) ∧ Below base X w' := by
  subst hb
  obtain ⟨A', c', w', h1, h2, h3, _⟩ := OL.append (cf := scf) (sz := 1) (l' := [x]) scf_len scf_one (by omega) Tryz.underlying48 info9 rfl (by omega) (ho.ext ((Ext.refl X).alloc _)) (SL.one (cf := scf) (sz := 1) X x #[.string ⟨x.toArray⟩] rfl 9) 1 (by omega) (by simp; omega)
  exact ⟨A', c', w', h1, h2, Below.trans (Below.mono ((Ext.refl X).alloc _) hbase) (h3 base (Nat.le_refl _))⟩
theorem app_list (a b : ByteArray) : (a ++ b).data.toList = a.data.toList ++ b.data.toList := by simp
end Go.Proofs.YtnpenepdechkjaaGreatDoor

/- Plain law: what the laws ask of the tokens. -/
namespace Go.Proofs.YtnpenepdechkjaaGreatDoor
open Go

end Go.Proofs.YtnpenepdechkjaaGreatDoor

/- Plain law: no two tokens form the beginning of a longer one; where tokens stand. -/
namespace Go.Proofs.YtnpenepdechkjaaGreatDoor
open Go

end Go.Proofs.YtnpenepdechkjaaGreatDoor

/- Plain law: numbers and dates as texts. -/
namespace Go.Proofs.YtnpenepdechkjaaGreatDoor
open Go

def dg (k : Nat) : UInt8 := UInt8.ofNat (48 + k)
theorem dec_one {n : Nat} (h : n < 10) : Lib.decDigits n = [dg n] := Lib.decDigits_one h
theorem dec_more {n : Nat} (h : ¬ n < 10) : Lib.decDigits n = Lib.decDigits (n / 10) ++ [dg (n % 10)] := by
  conv => lhs; rw [Lib.decDigits, dif_neg h]
  rfl
def padL (n k : Nat) : List UInt8 := Lib.repeatL [48] (k - (Lib.decDigits n).length) ++ Lib.decDigits n
theorem dg0 : dg 0 = 48 := by decide
theorem pad2 {n : Nat} (h : n < 100) : padL n 2 = [dg (n / 10), dg (n % 10)] := by
  unfold padL
  by_cases h1 : n < 10
  · rw [dec_one h1, show n / 10 = 0 by omega, show n % 10 = n by omega, dg0]; rfl
  · rw [dec_more h1, dec_one (show n / 10 < 10 by omega)]; rfl
theorem pad4 {n : Nat} (h : n < 10000) : padL n 4 = [dg (n / 1000), dg (n / 100 % 10), dg (n / 10 % 10), dg (n % 10)] := by
  unfold padL
  by_cases h1 : n < 10
  · rw [dec_one h1, show n / 1000 = 0 by omega, show n / 100 % 10 = 0 by omega, show n / 10 % 10 = 0 by omega, show n % 10 = n by omega, dg0]; rfl
  · by_cases h2 : n < 100
    · rw [dec_more h1, dec_one (show n / 10 < 10 by omega), show n / 1000 = 0 by omega, show n / 100 % 10 = 0 by omega, show n / 10 % 10 = n / 10 by omega, dg0]; rfl
    · by_cases h3 : n < 1000
      · rw [dec_more h1, dec_more (show ¬ n / 10 < 10 by omega), dec_one (show n / 10 / 10 < 10 by omega), show n / 1000 = 0 by omega, show n / 100 % 10 = n / 10 / 10 by omega, dg0]; rfl
      · rw [dec_more h1, dec_more (show ¬ n / 10 < 10 by omega), dec_more (show ¬ n / 10 / 10 < 10 by omega), dec_one (show n / 10 / 10 / 10 < 10 by omega), show n / 1000 = n / 10 / 10 / 10 by omega, show n / 100 % 10 = n / 10 / 10 % 10 by omega]; rfl
def dtx (y m d : Nat) : List UInt8 := padL y 4 ++ (45 :: (padL m 2 ++ (45 :: padL d 2)))
theorem dtx_list {y m d : Nat} (hy : y < 10000) (hm : m < 100) (hd : d < 100) : dtx y m d = [dg (y / 1000), dg (y / 100 % 10), dg (y / 10 % 10), dg (y % 10), 45, dg (m / 10), dg (m % 10), 45, dg (d / 10), dg (d % 10)] := by
  unfold dtx; rw [pad4 hy, pad2 hm, pad2 hd]; rfl
end Go.Proofs.YtnpenepdechkjaaGreatDoor

/- The contracts of date.Print and of its closure. -/
namespace Go.Proofs.YtnpenepdechkjaaGreatDoor
open Go Go.RowKit

def Tab (w : World) : Prop := ∀ W, Ext w W → Lib.TabIs Tryz.prog W "internal/strconv.uint64pow10" .u64 Lib.pow10Tab
theorem Tab.ext {w w' : World} (h : Tab w) (hx : Ext w w') : Tab w' := fun W hW => h W (hx.trans hW)
theorem itoa_nat (n : Nat) : Lib.itoa (n : Int) = Lib.decDigits n := by unfold Lib.itoa; rw [if_neg (by omega)]; simp
theorem itoa_any (n : Nat) (w : World) (hn : n ≤ 100000) (htab : Tab w) : Calls Tryz.prog 54 #[.int .i64 n] w (StrPost (Lib.decDigits n) w) := by
  refine (Tryz.strconv_Itoa (n : Int) (by omega) (by omega) w (htab w (Ext.refl w))).mono ?_
  rintro e w2 ⟨rfl, k9, os, rfl⟩
  exact ⟨by rw [itoa_nat], Lib.below_grow _ _ (Nat.le_refl _) k9 os⟩
theorem repeat_any (c : Nat) (w : World) (hc : c ≤ 100) : Calls Tryz.prog 103 #[.string ⟨#[48]⟩, .int .i64 c] w (StrPost (Lib.repeatL [48] c) w) := by
  refine (Tryz.strings_Repeat ⟨#[48]⟩ c w (by omega) ?_).mono ?_
  · show 1 * c ≤ _; omega
  · rintro e w2 ⟨rfl, hx⟩
    exact ⟨rfl, hx⟩
set_option maxRecDepth 100000 in
theorem pad_any (n k : Nat) (w : World) (hk : k ≤ 100) (hn : n ≤ 100000) (hl : (Lib.decDigits n).length ≤ k) (htab : Tab w) : Calls Tryz.prog 102 #[.int .i64 n, .int .i64 k] w (StrPost (padL n k) w) := by
  obtain ⟨S, hS⟩ : ∃ S : ByteArray, S = ⟨(Lib.decDigits n).toArray⟩ := ⟨_, rfl⟩
  have hSs : S.size = (Lib.decDigits n).length := by rw [← list_size, hS]
  obtain ⟨m, hm⟩ : ∃ m, m = k - (Lib.decDigits n).length := ⟨_, rfl⟩
  have e1 : (k : Int) - (S.size : Int) = (m : Int) := by omega
  obtain ⟨R, hR⟩ : ∃ R : ByteArray, R = ⟨(Lib.repeatL [48] m).toArray⟩ := ⟨_, rfl⟩
  have hRs : R.size = m := by rw [← list_size, hR]; simp [Lib.repeatL_length]
  have H1 := Lib.hid (show Calls Tryz.prog 54 #[.int .i64 n] w (fun e w' => e = .returned (.string S) ∧ Ext w w') from hS ▸ itoa_any n w hn htab)
  have H2 := Lib.hid (fun X => (show Calls Tryz.prog 103 #[.string ⟨#[48]⟩, .int .i64 m] X (fun e X' => e = .returned (.string R) ∧ Ext X X') from hR ▸ repeat_any m X (by omega)))
  have HF := Lib.hid (show R ++ S = ⟨(padL n k).toArray⟩ by
    apply WideShapes.bytes_inj
    rw [app_list, hR, hS]; unfold padL; rw [hm])
  have hq : ¬ 9223372036854775807 < R.size + S.size := by omega
  have hS2 : (S.size : Int) ≤ 100 := by omega
  clear hS hR hSs hRs hm htab hl
  go_enter Tryz.func102, Tryz.ntmps102
  go_wp2_with (first | (go_at_call 54; refine H1.out.mono ?_; rintro e w1 ⟨rfl, hx1⟩) | (go_at_call 103; refine (H2.out _).mono ?_; rintro e w2 ⟨rfl, hx2⟩))
  go_ret
  exact ⟨congrArg (fun z => Ending.returned (.string z)) HF.out, hx1.trans hx2⟩
/-- A date in a block of its own. -/
structure DBox (W : World) (b : Nat) (y m d : Int) : Prop where
  lt : b < W.heap.size
  c0 : W.cell? ⟨b, 0, none⟩ = some (.int .i64 y)
  c1 : W.cell? ⟨b, 1, none⟩ = some (.int .i64 m)
  c2 : W.cell? ⟨b, 2, none⟩ = some (.int .i64 d)
theorem DBox.ext {W W' : World} {b : Nat} {y m d : Int} (h : DBox W b y m d) (hx : Ext W W') : DBox W' b y m d := by
  obtain ⟨q, _⟩ := hx.cells
  exact ⟨Nat.lt_of_lt_of_le h.lt hx.lt, by rw [q _ _ h.lt]; exact h.c0, by rw [q _ _ h.lt]; exact h.c1, by rw [q _ _ h.lt]; exact h.c2⟩
theorem DBox.new (W : World) (y m d : Int) (t : TypeId) : DBox (W.alloc (.cells #[.int .i64 y, .int .i64 m, .int .i64 d] t)) W.heap.size y m d :=
  ⟨by simp, by go_simp, by go_simp, by go_simp⟩
theorem dec_len2 {n : Nat} (h : n < 100) : (Lib.decDigits n).length ≤ 2 := by
  by_cases h1 : n < 10
  · rw [dec_one h1]; simp
  · rw [dec_more h1, dec_one (by omega)]; simp
theorem dec_len4 {n : Nat} (h : n < 10000) : (Lib.decDigits n).length ≤ 4 := by
  by_cases h1 : n < 100
  · have := dec_len2 h1; omega
  · rw [dec_more (by omega), dec_more (by omega), List.length_append, List.length_append]
    have := dec_len2 (n := n / 10 / 10) (by omega)
    simp; omega
theorem date_bounds {y m d : Nat} (hb : dateB y m d = true) : y ≤ 9999 ∧ m ≤ 12 ∧ d ≤ 31 := by
  simp only [dateB, Bool.and_eq_true, decide_eq_true_eq] at hb
  have := mlen_le y m
  omega
def prL (d : Nat) : List UInt8 := dtx (ofD d).1 (ofD d).2.1 (ofD d).2.2
theorem prL_size {d : Nat} (hd : d ≤ 3652058) : (prL d).length = 10 := by
  obtain ⟨h1, h2, h3⟩ := date_bounds (ofD_ok hd).1
  unfold prL; rw [dtx_list (by omega) (by omega) (by omega)]; rfl
set_option maxHeartbeats 4000000 in
set_option maxRecDepth 100000 in
theorem print_any (n : Nat) (w : World) (hn : n ≤ 3652058) (htab : Tab w) : Calls Tryz.prog 50 #[.int .i64 n] w (StrPost (prL n) w) := by
  have H40 := Lib.hid (fun X => of_any n X hn)
  obtain ⟨b1, b2, b3⟩ := date_bounds (ofD_ok hn).1
  obtain ⟨y, hy⟩ : ∃ y, y = (ofD n).1 := ⟨_, rfl⟩
  obtain ⟨m, hm⟩ : ∃ y, y = (ofD n).2.1 := ⟨_, rfl⟩
  obtain ⟨d, hd⟩ : ∃ y, y = (ofD n).2.2 := ⟨_, rfl⟩
  unfold OfPost at H40
  rw [← hy, ← hm, ← hd] at H40
  rw [← hy] at b1
  rw [← hm] at b2
  rw [← hd] at b3
  have hpr : prL n = dtx y m d := by unfold prL; rw [hy, hm, hd]
  have z1 : (padL y 4).length = 4 := by rw [pad4 (by omega)]; rfl
  have z2 : (padL m 2).length = 2 := by rw [pad2 (by omega)]; rfl
  have z3 : (padL d 2).length = 2 := by rw [pad2 (by omega)]; rfl
  obtain ⟨Y, hY⟩ : ∃ S : ByteArray, S = ⟨(padL y 4).toArray⟩ := ⟨_, rfl⟩
  obtain ⟨M, hM⟩ : ∃ S : ByteArray, S = ⟨(padL m 2).toArray⟩ := ⟨_, rfl⟩
  obtain ⟨D, hD⟩ : ∃ S : ByteArray, S = ⟨(padL d 2).toArray⟩ := ⟨_, rfl⟩
  have s1 : Y.size = 4 := by rw [← list_size, hY]; exact z1
  have s2 : M.size = 2 := by rw [← list_size, hM]; exact z2
  have s3 : D.size = 2 := by rw [← list_size, hD]; exact z3
  have HY := Lib.hid (fun X (hX : Ext w X) => (show Calls Tryz.prog 102 #[.int .i64 y, .int .i64 4] X (fun e X' => e = .returned (.string Y) ∧ Ext X X') from hY ▸ pad_any y 4 X (by omega) (by omega) (dec_len4 (by omega)) (htab.ext hX)))
  have HM := Lib.hid (fun X (hX : Ext w X) => (show Calls Tryz.prog 102 #[.int .i64 m, .int .i64 2] X (fun e X' => e = .returned (.string M) ∧ Ext X X') from hM ▸ pad_any m 2 X (by omega) (by omega) (dec_len2 (by omega)) (htab.ext hX)))
  have HD := Lib.hid (fun X (hX : Ext w X) => (show Calls Tryz.prog 102 #[.int .i64 d, .int .i64 2] X (fun e X' => e = .returned (.string D) ∧ Ext X X') from hD ▸ pad_any d 2 X (by omega) (by omega) (dec_len2 (by omega)) (htab.ext hX)))
  have HF := Lib.hid (show Y ++ ⟨#[45]⟩ ++ M ++ ⟨#[45]⟩ ++ D = ⟨(prL n).toArray⟩ by
    apply WideShapes.bytes_inj
    rw [app_list, app_list, app_list, app_list, hY, hM, hD, hpr]; unfold dtx; simp)
  have q1 : ¬ 9223372036854775807 < Y.size + 1 := by omega
  have q2 : ¬ 9223372036854775807 < Y.size + 1 + M.size := by omega
  have q3 : ¬ 9223372036854775807 < Y.size + 1 + M.size + 1 := by omega
  have q4 : ¬ 9223372036854775807 < Y.size + 1 + M.size + 1 + D.size := by omega
  clear hY hM hD hy hm hd hpr s1 s2 s3 z1 z2 z3 htab
  go_enter Tryz.func50, Tryz.ntmps50
  go_upto_region 5 with (first | (go_at_call 101; refine (H40.out _).mono ?_; rintro e w1 ⟨rfl, hx1⟩))
  have hbx := DBox.new w1 y m d 110
  have HX1 := Lib.hid (hx1.alloc (.cells #[.int .i64 y, .int .i64 m, .int .i64 d] 110))
  clear hx1
  generalize w1.alloc (.cells #[.int .i64 y, .int .i64 m, .int .i64 d] 110) = w2 at *
  generalize w1.heap.size = b at *
  have HQ := Lib.hid (fun W (hW : Ext w2 W) => (show W.cell? ⟨b, 0, none⟩ = some (.int .i64 y) ∧ W.cell? ⟨b, 1, none⟩ = some (.int .i64 m) ∧ W.cell? ⟨b, 2, none⟩ = some (.int .i64 d) from ⟨(hbx.ext hW).c0, (hbx.ext hW).c1, (hbx.ext hW).c2⟩))
  obtain ⟨k0, k1, k2⟩ := HQ.out w2 (Ext.refl _)
  have hcur : Ext w2 w2.drew := (Ext.refl _).drew
  clear hbx
  go_region_held3 (fun W => W.cell? ⟨b, 0, none⟩ = some (.int .i64 y) ∧ W.cell? ⟨b, 1, none⟩ = some (.int .i64 m) ∧ W.cell? ⟨b, 2, none⟩ = some (.int .i64 d)) (first | exact HQ.out _ hcur | go_keep)
    (first
      | (go_at_call_of 102 (Value.int IntKind.i64 (y : Int)); refine (HY.out _ (HX1.out.trans hcur)).mono ?_; rintro e wn ⟨rfl, hx⟩; have hcur := hcur.trans hx; clear hx)
      | (go_at_call_of 102 (Value.int IntKind.i64 (m : Int)); refine (HM.out _ (HX1.out.trans hcur)).mono ?_; rintro e wn ⟨rfl, hx⟩; have hcur := hcur.trans hx; clear hx)
      | (go_at_call_of 102 (Value.int IntKind.i64 (d : Int)); refine (HD.out _ (HX1.out.trans hcur)).mono ?_; rintro e wn ⟨rfl, hx⟩; have hcur := hcur.trans hx; clear hx))
  go_wp2
  go_ret
  exact ⟨congrArg (fun z => Ending.returned (.string z)) HF.out, HX1.out.trans hcur⟩
end Go.Proofs.YtnpenepdechkjaaGreatDoor

/- What Show and Print compute, in plain Lean; trees that can be printed. -/
namespace Go.Proofs.YtnpenepdechkjaaGreatDoor
open Go

def lvN (k : Int) (s : List UInt8) : Nat := if k = 6 then lvOf s else if k = 7 ∨ k = 8 then 5 else if k = 5 then (if s = wNot then 3 else 7) else 8
def lvT : Tr → Nat
  | .nd k _ s _ => lvN k s
/-- An operand at a place that asks for a level. -/
def opL (lv least : Nat) (x : List UInt8) : List UInt8 := if lv < least then 40 :: (x ++ [41]) else x
def leftL (lv : Nat) : Nat := if lv = 4 then 5 else lv
def showN (k n : Int) (s : List UInt8) (ls : List Nat) (xs : List (List UInt8)) : List UInt8 :=
  if k = 1 then Lib.itoa n
  else if k = 2 then (if n = 1 then wTrue else wFalse)
  else if k = 3 then 64 :: prL n.toNat
  else if k = 4 then s
  else if k = 5 then (if s = wNot then [110, 111, 116, 32] ++ opL (ls.getD 0 0) 3 (xs.getD 0 []) else [45] ++ opL (ls.getD 0 0) 7 (xs.getD 0 []))
  else if k = 9 then [105, 102, 32] ++ xs.getD 0 [] ++ [32, 116, 104, 101, 110, 32] ++ xs.getD 1 [] ++ [32, 101, 108, 115, 101, 32] ++ xs.getD 2 [] ++ [32, 101, 110, 100]
  else if k = 10 then s ++ [40] ++ Lib.join xs [44, 32] ++ [41]
  else if k = 7 then opL (ls.getD 0 0) (leftL (lvN k s)) (xs.getD 0 []) ++ [32, 43, 32] ++ opL (ls.getD 1 0) (lvN k s + 1) (xs.getD 1 []) ++ [32] ++ s
  else if k = 8 then opL (ls.getD 0 0) (leftL (lvN k s)) (xs.getD 0 []) ++ [32, 45, 32] ++ opL (ls.getD 1 0) (lvN k s + 1) (xs.getD 1 []) ++ [32] ++ s
  else opL (ls.getD 0 0) (leftL (lvN k s)) (xs.getD 0 []) ++ [32] ++ s ++ [32] ++ opL (ls.getD 1 0) (lvN k s + 1) (xs.getD 1 [])
mutual
def showT : Tr → List UInt8
  | .nd k n s ks => showN k n s (ks.map lvT) (showTs ks)
def showTs : List Tr → List (List UInt8)
  | [] => []
  | t :: ts => showT t :: showTs ts
end
mutual
def shB : Tr → Nat
  | .nd _ _ s ks => 40 + s.length + shBs ks
def shBs : List Tr → Nat
  | [] => 0
  | t :: ts => shB t + shBs ts
end
theorem showTs_map : ∀ ts : List Tr, showTs ts = ts.map showT
  | [] => rfl
  | t :: ts => by rw [showTs, showTs_map ts]; rfl
/-- Trees that can be printed: all that the parser builds. -/
inductive GT : Tr → Prop
  | num (n : Int) (h : 0 ≤ n ∧ n ≤ 2147483647) : GT (.nd 1 n [] [])
  | bool (n : Int) (h : n = 0 ∨ n = 1) : GT (.nd 2 n [] [])
  | day (n : Int) (h : 0 ≤ n ∧ n ≤ 3652058) : GT (.nd 3 n [] [])
  | field (s : List UInt8) (h : s ∈ fields) : GT (.nd 4 0 s [])
  | una (s : List UInt8) (a : Tr) (h : s = wNot ∨ s = wMinus) (ha : GT a) : GT (.nd 5 0 s [a])
  | bin (s : List UInt8) (a b : Tr) (h : 1 ≤ lvOf s) (ha : GT a) (hb : GT b) : GT (.nd 6 0 s [a, b])
  | aft (k : Int) (s : List UInt8) (a b : Tr) (hk : k = 7 ∨ k = 8) (h : s ∈ units) (ha : GT a) (hb : GT b) : GT (.nd k 0 s [a, b])
  | ite (a b c : Tr) (ha : GT a) (hb : GT b) (hc : GT c) : GT (.nd 9 0 [] [a, b, c])
  | call1 (s : List UInt8) (a : Tr) (h : s ∈ functions) (hs : argsN s = 1) (ha : GT a) : GT (.nd 10 0 s [a])
  | call2 (s : List UInt8) (a b : Tr) (h : s ∈ functions) (hs : argsN s = 2) (ha : GT a) (hb : GT b) : GT (.nd 10 0 s [a, b])
theorem itoa_len {n : Int} (h : 0 ≤ n ∧ n ≤ 2147483647) : (Lib.itoa n).length ≤ 20 := by
  obtain ⟨m, rfl⟩ := Int.eq_ofNat_of_zero_le h.1
  rw [itoa_nat]
  have hm : m < 10000000000 := by omega
  have step : ∀ j, (Lib.decDigits j).length ≤ (Lib.decDigits (j / 10)).length + 1 := fun j => by
    by_cases h1 : j < 10
    · rw [dec_one h1]; simp
    · rw [dec_more h1, List.length_append]; simp
  have h0 := step m
  have h1 := step (m / 10)
  have h2 := step (m / 10 / 10)
  have h3 := step (m / 10 / 10 / 10)
  have h4 := step (m / 10 / 10 / 10 / 10)
  have h5 := step (m / 10 / 10 / 10 / 10 / 10)
  have h6 := step (m / 10 / 10 / 10 / 10 / 10 / 10)
  have h7 := step (m / 10 / 10 / 10 / 10 / 10 / 10 / 10)
  have h8 := step (m / 10 / 10 / 10 / 10 / 10 / 10 / 10 / 10)
  have h9 : (Lib.decDigits (m / 10 / 10 / 10 / 10 / 10 / 10 / 10 / 10 / 10)).length ≤ 1 := by rw [dec_one (by omega)]; simp
  omega
theorem opL_len (lv least : Nat) (x : List UInt8) : (opL lv least x).length ≤ x.length + 2 := by
  unfold opL
  split
  · simp
  · omega
theorem showT_len : ∀ {t : Tr}, GT t → (showT t).length ≤ shB t := fun {t} h => by
  induction h with
  | num n h =>
    have := itoa_len h
    simp only [showT, showN, shB, shBs, if_true]
    omega
  | bool n h =>
    simp only [showT, showN, shB, shBs, show ¬ ((2 : Int) = 1) by decide, if_false, if_true]
    split <;> decide
  | day n h =>
    have := prL_size (d := n.toNat) (by omega)
    simp only [showT, showN, shB, shBs, show ¬ ((3 : Int) = 1) by decide, show ¬ ((3 : Int) = 2) by decide, if_false, if_true, List.length_cons]
    omega
  | field s h =>
    simp only [showT, showN, shB, shBs, show ¬ ((4 : Int) = 1) by decide, show ¬ ((4 : Int) = 2) by decide, show ¬ ((4 : Int) = 3) by decide, if_false, if_true]
    omega
  | una s a h ha iha =>
    have := opL_len (lvT a) 3 (showT a)
    have := opL_len (lvT a) 7 (showT a)
    simp only [showT, showN, showTs, shB, shBs, show ¬ ((5 : Int) = 1) by decide, show ¬ ((5 : Int) = 2) by decide, show ¬ ((5 : Int) = 3) by decide, show ¬ ((5 : Int) = 4) by decide, if_false, if_true, List.map_cons, List.map_nil, List.getD_cons_zero]
    split <;> simp only [List.length_append, List.length_cons, List.length_nil] <;> omega
  | bin s a b h ha hb iha ihb =>
    have h1 := opL_len (lvT a) (leftL (lvN 6 s)) (showT a)
    have h2 := opL_len (lvT b) (lvN 6 s + 1) (showT b)
    simp only [showT, showN, showTs, shB, shBs, show ¬ ((6 : Int) = 1) by decide, show ¬ ((6 : Int) = 2) by decide, show ¬ ((6 : Int) = 3) by decide, show ¬ ((6 : Int) = 4) by decide, show ¬ ((6 : Int) = 5) by decide, show ¬ ((6 : Int) = 9) by decide, show ¬ ((6 : Int) = 10) by decide, show ¬ ((6 : Int) = 7) by decide, show ¬ ((6 : Int) = 8) by decide, if_false, List.map_cons, List.map_nil, List.getD_cons_zero, List.getD_cons_succ, List.length_append, List.length_cons, List.length_nil]
    omega
  | aft k s a b hk h ha hb iha ihb =>
    have h1 := opL_len (lvT a) (leftL (lvN k s)) (showT a)
    have h2 := opL_len (lvT b) (lvN k s + 1) (showT b)
    rcases hk with rfl | rfl
    · simp only [showT, showN, showTs, shB, shBs, show ¬ ((7 : Int) = 1) by decide, show ¬ ((7 : Int) = 2) by decide, show ¬ ((7 : Int) = 3) by decide, show ¬ ((7 : Int) = 4) by decide, show ¬ ((7 : Int) = 5) by decide, show ¬ ((7 : Int) = 9) by decide, show ¬ ((7 : Int) = 10) by decide, if_false, if_true, List.map_cons, List.map_nil, List.getD_cons_zero, List.getD_cons_succ, List.length_append, List.length_cons, List.length_nil]
      omega
    · simp only [showT, showN, showTs, shB, shBs, show ¬ ((8 : Int) = 1) by decide, show ¬ ((8 : Int) = 2) by decide, show ¬ ((8 : Int) = 3) by decide, show ¬ ((8 : Int) = 4) by decide, show ¬ ((8 : Int) = 5) by decide, show ¬ ((8 : Int) = 9) by decide, show ¬ ((8 : Int) = 10) by decide, show ¬ ((8 : Int) = 7) by decide, if_false, if_true, List.map_cons, List.map_nil, List.getD_cons_zero, List.getD_cons_succ, List.length_append, List.length_cons, List.length_nil]
      omega
  | ite a b c ha hb hc iha ihb ihc =>
    simp only [showT, showN, showTs, shB, shBs, show ¬ ((9 : Int) = 1) by decide, show ¬ ((9 : Int) = 2) by decide, show ¬ ((9 : Int) = 3) by decide, show ¬ ((9 : Int) = 4) by decide, show ¬ ((9 : Int) = 5) by decide, if_false, if_true, List.map_cons, List.map_nil, List.getD_cons_zero, List.getD_cons_succ, List.length_append, List.length_cons, List.length_nil]
    omega
  | call1 s a h hs ha iha =>
    simp only [showT, showN, showTs, shB, shBs, show ¬ ((10 : Int) = 1) by decide, show ¬ ((10 : Int) = 2) by decide, show ¬ ((10 : Int) = 3) by decide, show ¬ ((10 : Int) = 4) by decide, show ¬ ((10 : Int) = 5) by decide, show ¬ ((10 : Int) = 9) by decide, if_false, if_true, Lib.join_cons, Lib.joinTail, List.map_cons, List.map_nil, List.flatten_nil, List.length_append, List.length_cons, List.length_nil]
    omega
  | call2 s a b h hs ha hb iha ihb =>
    simp only [showT, showN, showTs, shB, shBs, show ¬ ((10 : Int) = 1) by decide, show ¬ ((10 : Int) = 2) by decide, show ¬ ((10 : Int) = 3) by decide, show ¬ ((10 : Int) = 4) by decide, show ¬ ((10 : Int) = 5) by decide, show ¬ ((10 : Int) = 9) by decide, if_false, if_true, Lib.join_cons, Lib.joinTail, List.map_cons, List.map_nil, List.flatten_cons, List.flatten_nil, List.length_append, List.length_cons, List.length_nil]
    omega
end Go.Proofs.YtnpenepdechkjaaGreatDoor

/- The production's level and operand. -/
namespace Go.Proofs.YtnpenepdechkjaaGreatDoor
open Go Go.RowKit

set_option maxRecDepth 100000 in
theorem plev_any (d : Nd) (s : List UInt8) (hs : d.s = bs s) (W : World) : Calls Tryz.prog 53 #[.agg #[.int .i64 d.k, .int .i64 d.n, .string d.s, .slice d.A d.m d.c]] W (fun e W' => e = .returned (.int .i64 (lvN d.k s : Nat)) ∧ Ext W W') := by
  obtain ⟨dk, dn, ds, dA, dm, dc⟩ := d
  simp only at hs ⊢
  have HL := Lib.hid (fun X => plevel_any s ds hs X)
  have hx0 : Ext W (W.alloc (.cells #[.int .i64 dk, .int .i64 dn, .string ds, .slice dA dm dc] 31)) := (Ext.refl W).alloc _
  have HX0 := Lib.hid hx0
  by_cases k6 : dk = 6
  · have hv : lvN dk s = lvOf s := by unfold lvN; rw [if_pos k6]
    rw [hv]
    subst k6
    clear hs hv hx0
    go_enter Tryz.func53, Tryz.ntmps53
    go_wp2_with (first | (go_at_call 106; refine (HL.out _).mono ?_; rintro e w1 ⟨rfl, hx⟩))
    go_ret
    exact ⟨rfl, HX0.out.trans hx⟩
  by_cases k7 : dk = 7
  · have hv : lvN dk s = 5 := by unfold lvN; rw [if_neg k6, if_pos (.inl k7)]
    rw [hv]
    subst k7
    clear hs hv hx0 k6
    go_enter Tryz.func53, Tryz.ntmps53
    go_wp2
    go_ret
    exact ⟨rfl, HX0.out⟩
  by_cases k8 : dk = 8
  · have hv : lvN dk s = 5 := by unfold lvN; rw [if_neg k6, if_pos (.inr k8)]
    rw [hv]
    subst k8
    clear hs hv hx0 k6 k7
    go_enter Tryz.func53, Tryz.ntmps53
    go_wp2
    go_ret
    exact ⟨rfl, HX0.out⟩
  by_cases k5 : dk = 5
  · by_cases hn : s = wNot
    · have hv : lvN dk s = 3 := by unfold lvN; rw [if_neg k6, if_neg (fun h => h.elim k7 k8), if_pos k5, if_pos hn]
      have hb : (ds.toList == [110, 111, 116]) = true := by rw [hs, bs_list, hn]; rfl
      rw [hv]
      subst k5
      clear hs hv hx0 k6 k7 k8 hn
      go_enter Tryz.func53, Tryz.ntmps53
      go_wp2
      go_ret
      exact ⟨rfl, HX0.out⟩
    · have hv : lvN dk s = 7 := by unfold lvN; rw [if_neg k6, if_neg (fun h => h.elim k7 k8), if_pos k5, if_neg hn]
      have hb : (ds.toList == [110, 111, 116]) = false := by rw [hs, bs_list]; exact beq_eq_false_iff_ne.2 hn
      rw [hv]
      subst k5
      clear hs hv hx0 k6 k7 k8 hn
      go_enter Tryz.func53, Tryz.ntmps53
      go_wp2
      go_ret
      exact ⟨rfl, HX0.out⟩
  have hv : lvN dk s = 8 := by unfold lvN; rw [if_neg k6, if_neg (fun h => h.elim k7 k8), if_neg k5]
  have b6 : (dk == 6) = false := by simpa using k6
  have b7 : (dk == 7) = false := by simpa using k7
  have b8 : (dk == 8) = false := by simpa using k8
  have b5 : (dk == 5) = false := by simpa using k5
  rw [hv]
  clear hs hv hx0 k6 k7 k8 k5
  go_enter Tryz.func53, Tryz.ntmps53
  go_wp2
  go_ret
  exact ⟨rfl, HX0.out⟩
theorem lvN_le (k : Int) (s : List UInt8) : lvN k s ≤ 8 := by
  unfold lvN lvOf
  repeat' split
  all_goals omega
/-- What is known of Show at smaller trees. -/
def SC (M : Nat) : Prop := ∀ (t : Tr) (d : Nd) (P : Nat → Prop) (W : World), tsz t < M → GT t → shB t ≤ 10000000 → Rep W P d t → Tab W →
  Calls Tryz.prog 26 #[.agg #[.int .i64 d.k, .int .i64 d.n, .string d.s, .slice d.A d.m d.c]] W (StrPost (showT t) W)
theorem bs_app (x y : List UInt8) : bs x ++ bs y = bs (x ++ y) := by apply ByteArray.ext; simp
theorem bs_size (x : List UInt8) : (bs x).size = x.length := by simp [ByteArray.size]
theorem rep_lv {W : World} {P : Nat → Prop} {d : Nd} {t : Tr} (h : Rep W P d t) : ∃ s, d.s = bs s ∧ lvN d.k s = lvT t := by
  cases h with
  | mk k n s A c hs ks h0 h1 h2 h3 => exact ⟨s, rfl, rfl⟩
set_option maxRecDepth 100000 in
theorem pop_any {M : Nat} (hS : SC M) (t : Tr) (d : Nd) (P : Nat → Prop) (W : World) (ht : tsz t < M) (hg : GT t) (hb : shB t ≤ 10000000) (hr : Rep W P d t) (htab : Tab W) (least : Nat) (_hl : least ≤ 10) :
    Calls Tryz.prog 56 #[.agg #[.int .i64 d.k, .int .i64 d.n, .string d.s, .slice d.A d.m d.c], .int .i64 (least : Nat)] W (StrPost (opL (lvT t) least (showT t)) W) := by
  have HL := Lib.hid (fun X (hX : Ext W X) => by
    obtain ⟨s, h1, h2⟩ := rep_lv hr
    have := plev_any d s h1 X
    rw [h2] at this; exact this)
  have HS := Lib.hid (fun X (hX : Ext W X) => hS t d P X ht hg hb (hr.ext hX) (htab.ext hX))
  have hlen := showT_len hg
  have hlv : lvT t ≤ 8 := by cases t; exact lvN_le _ _
  obtain ⟨S, hSS⟩ : ∃ S, S = bs (showT t) := ⟨_, rfl⟩
  have hsz : S.size ≤ 10000000 := by rw [hSS, bs_size]; omega
  unfold StrPost at HS
  rw [show (⟨(showT t).toArray⟩ : ByteArray) = S from hSS.symm] at HS
  obtain ⟨x, hx⟩ : ∃ x, x = showT t := ⟨_, rfl⟩
  rw [← hx] at hSS ⊢
  have HSS := Lib.hid hSS
  obtain ⟨l, hle⟩ : ∃ l, l = lvT t := ⟨_, rfl⟩
  rw [← hle] at HL hlv ⊢
  obtain ⟨dk, dn, ds, dA, dm, dc⟩ := d
  have hx0 : Ext W (W.alloc (.cells #[.int .i64 dk, .int .i64 dn, .string ds, .slice dA dm dc] 31)) := (Ext.refl W).alloc _
  have hna : NX (W.alloc (.cells #[.int .i64 dk, .int .i64 dn, .string ds, .slice dA dm dc] 31)) W.heap.size dk dn ds (.slice dA dm dc) := heap_alloc_new _ _
  have HX0 := Lib.hid hx0
  have HNA := Lib.hid hna
  unfold opL
  by_cases hlt : l < least
  · have hI : (l : Int) < (least : Int) := by omega
    have q1 : ¬ 9223372036854775807 < 1 + S.size := by omega
    have q2 : ¬ 9223372036854775807 < 1 + S.size + 1 := by omega
    rw [if_pos hlt]
    have HF := Lib.hid (show (⟨#[40]⟩ : ByteArray) ++ S ++ ⟨#[41]⟩ = bs (40 :: (x ++ [41])) from by
      rw [HSS.out, show (⟨#[40]⟩ : ByteArray) = bs [40] from rfl, show (⟨#[41]⟩ : ByteArray) = bs [41] from rfl, bs_app, bs_app]; rfl)
    clear hr hS hlen hSS hx hle hx0 hna hlt hg
    go_enter Tryz.func56, Tryz.ntmps56
    go_wp2_with (first
      | (go_at_call 53; refine (HL.out _ HX0.out).mono ?_; rintro e w1 ⟨rfl, hx1⟩; obtain ⟨_, k0, k1, k2, k3, _, _, _, _⟩ := (NX.mv (b := W.heap.size + 1) HNA.out (Mv.of_ext hx1) (by omega)).nb; have HX1 := Lib.hid hx1; clear hx1)
      | (go_at_call 26; refine (HS.out _ (HX0.out.trans HX1.out)).mono ?_; rintro e w2 ⟨rfl, hx2⟩))
    go_ret
    exact ⟨congrArg (fun z => Ending.returned (.string z)) HF.out, (HX0.out.trans HX1.out).trans hx2⟩
  · have hI : ¬ (l : Int) < (least : Int) := by omega
    rw [if_neg hlt]
    clear hr hS hlen hSS hx hle hx0 hna hlt hg
    go_enter Tryz.func56, Tryz.ntmps56
    go_wp2_with (first
      | (go_at_call 53; refine (HL.out _ HX0.out).mono ?_; rintro e w1 ⟨rfl, hx1⟩; obtain ⟨_, k0, k1, k2, k3, _, _, _, _⟩ := (NX.mv (b := W.heap.size + 1) HNA.out (Mv.of_ext hx1) (by omega)).nb; have HX1 := Lib.hid hx1; clear hx1)
      | (go_at_call 26; refine (HS.out _ (HX0.out.trans HX1.out)).mono ?_; rintro e w2 ⟨rfl, hx2⟩))
    go_ret
    exact ⟨congrArg (fun z => Ending.returned (.string z)) HSS.out, (HX0.out.trans HX1.out).trans hx2⟩
end Go.Proofs.YtnpenepdechkjaaGreatDoor

/- The production's all. -/
namespace Go.Proofs.YtnpenepdechkjaaGreatDoor
open Go Go.RowKit

def AlRel (W : World) (xs : List (List UInt8)) (s3 s8 : Value) (w' : World) : Prop :=
  ∃ k A c, k ≤ xs.length ∧ s8 = .int .i64 (k : Nat) ∧ s3 = .slice A k c ∧ OL scf 1 w' W.heap.size 9 s3 (xs.take k) ∧ Ext W w'
/-- A row of texts as all hands it back. -/
def AlPost (xs : List (List UInt8)) (w : World) (e : Ending) (w' : World) : Prop := ∃ A c, e = .returned (.slice A xs.length c) ∧ OL scf 1 w' w.heap.size 9 (.slice A xs.length c) xs ∧ Ext w w'
set_option maxHeartbeats 4000000 in
set_option maxRecDepth 100000 in
theorem pall_any {M : Nat} (hS : SC M) (k0 n0 : Int) (s0 : List UInt8) (ks : List Tr) (d : Nd) (P : Nat → Prop) (W : World) (hks : ∀ t ∈ ks, tsz t < M ∧ GT t ∧ shB t ≤ 10000000) (hl : ks.length ≤ 1000) (hr : Rep W P d (.nd k0 n0 s0 ks)) (htab : Tab W) :
    Calls Tryz.prog 57 #[.slice d.A ks.length d.c] W (AlPost (ks.map showT) W) := by
  have HR := Lib.hid hr
  have HT := Lib.hid htab
  have HK := Lib.hid hks
  obtain ⟨xs, hxs⟩ : ∃ xs, xs = ks.map showT := ⟨_, rfl⟩
  have hxl : xs.length = ks.length := by rw [hxs]; simp
  have HXS := Lib.hid hxs
  rw [← hxs]
  clear hr htab hks hxs
  obtain ⟨dk, dn, ds, dA, dm, dc⟩ := d
  simp only
  rw [← hxl]
  have HXL := Lib.hid hxl
  have hxl2 : xs.length ≤ 1000 := by omega
  clear hxl
  go_enter Tryz.func57, Tryz.ntmps57
  go_wp2
  go_loopw [3, 8] (fun s3 s8 w' => AlRel W xs s3 s8 w') (fun _ s8 _ => toM xs.length s8)
  case atStart => exact ⟨0, none, 0, by omega, rfl, rfl, OL.nil _ _ _, Ext.refl _⟩
  case round =>
    obtain ⟨k, A1, c1, hk, rfl, rfl, ho, hx⟩ := hrel
    have HO := Lib.hid ho
    have HX := Lib.hid hx
    clear ho hx
    by_cases hlt : k < xs.length
    · have hlt' : (k : Int) < xs.length := by omega
      obtain ⟨g, off, d', t, hA, hg, ht, hm, hrep, p0, p1, p2, p3⟩ := (HR.out.ext HX.out).kid (i := k) (by rw [← HXL.out]; exact hlt)
      simp only at hA
      subst hA
      obtain ⟨q1, q2, q3⟩ := HK.out t hm
      have HC := Lib.hid (fun X (hX : Ext wr X) => hS t d' P X q1 q2 q3 (hrep.ext hX) (HT.out.ext (HX.out.trans hX)))
      obtain ⟨x, hxx⟩ : ∃ x, x = showT t := ⟨_, rfl⟩
      have HXT := Lib.hid (show xs.take (k + 1) = xs.take k ++ [x] from by
        rw [List.take_add_one, HXS.out, hxx]
        simp [ht])
      rw [← hxx] at HC
      unfold StrPost at HC
      have hbs := HX.out.lt
      have hX1 : Ext wr (wr.alloc (.cells #[.int .i64 d'.k, .int .i64 d'.n, .string d'.s, .slice d'.A d'.m d'.c] 31)) := (Ext.refl _).alloc _
      have hnx : NX (wr.alloc (.cells #[.int .i64 d'.k, .int .i64 d'.n, .string d'.s, .slice d'.A d'.m d'.c] 31)) wr.heap.size d'.k d'.n d'.s (.slice d'.A d'.m d'.c) := heap_alloc_new _ _
      have HX1 := Lib.hid hX1
      have HN := Lib.hid hnx
      clear ht hm hrep hxx hX1 hnx q1 q2 q3
      have hl2 : (xs.take k).length = k := by simp; omega
      obtain ⟨a, hta⟩ : ∃ a, a = xs.take k := ⟨_, rfl⟩
      rw [← hta] at HXT HO hl2
      clear hta
      have HL2 := Lib.hid hl2
      clear hl2
      go_wp2_with (first
        | (go_at_call 26; refine (HC.out _ HX1.out).mono ?_; rintro e w5 ⟨rfl, hx5⟩; have HX5 := Lib.hid (HX1.out.trans hx5); obtain ⟨A5, c5, w6, hrun, ho5, hb5⟩ := ap39_one (base := W.heap.size) w5 (HO.out.ext HX5.out) x w5.heap.size rfl (by rw [HL2.out]; omega) (by have := HX5.out.lt; omega); rw [HL2.out] at hrun ho5; have HRUN := Lib.hid hrun; have HO5 := Lib.hid ho5; have HB5 := Lib.hid hb5; clear hrun ho5 hb5 hx5)
        | (at_builtin; refine wpList_append_run (s := .tmp 12) (x := .tmp 15) HRUN.out rfl rfl rfl rfl rfl ?_))
      exact ⟨⟨k + 1, A5, c5, by omega, rfl, rfl, by rw [HXT.out]; exact HO5.out, Below.trans (HX.out.trans HX5.out) HB5.out⟩, by simp only [toM]; omega⟩
    · obtain rfl : k = xs.length := by omega
      have hni : ¬ ((xs.length : Int) < (xs.length : Int)) := by omega
      have HO2 := Lib.hid (show OL scf 1 wr W.heap.size 9 (.slice A1 xs.length c1) xs from by have := HO.out; rwa [List.take_length] at this)
      clear HO
      go_wp2
      go_ret
      exact ⟨A1, c1, rfl, HO2.out, HX.out⟩
theorem joinC_any (X : World) {base : Nat} {A : Option Addr} {c : Nat} {l : List (List UInt8)} (ho : OL scf 1 X base 9 (.slice A l.length c) l) (hl : l.length ≤ 10000000) (hj : (Lib.join l [44, 32]).length ≤ 100000000) :
    Calls Tryz.prog 58 #[.slice A l.length c, .string ⟨#[44, 32]⟩] X (StrPost (Lib.join l [44, 32]) X) := by
  obtain ⟨A', c', e, hc, hs⟩ := OL.form scf_len ho
  injection e with e1 e2 e3
  subst e1 e3
  by_cases h0 : 0 < l.length
  · obtain ⟨b, off, rfl, hb, hcell⟩ := hs.2 h0
    have := Tryz.strings_Join b off c (l.map fun x => (⟨x.toArray⟩ : ByteArray)) ⟨#[44, 32]⟩ X (fun j x hx => by
      rw [List.getElem?_map] at hx
      obtain ⟨a, ha, rfl⟩ := Option.map_eq_some_iff.1 hx
      have := hcell j a ha 0 _ rfl
      simpa using this) hb (by rw [List.length_map]; omega) (by rw [List.length_map]; exact hc) (by
        rw [List.map_map]
        have e2 : (l.map ((fun x : ByteArray => x.data.toList) ∘ fun x => (⟨x.toArray⟩ : ByteArray))) = l := by
          simp [Function.comp_def]
        rw [e2]; exact Nat.le_trans hj (by omega))
    rw [List.map_map, List.length_map] at this
    have e2 : (l.map ((fun x : ByteArray => x.data.toList) ∘ fun x => (⟨x.toArray⟩ : ByteArray))) = l := by
      simp [Function.comp_def]
    rw [e2] at this
    exact this
  · obtain rfl : l = [] := List.eq_nil_of_length_eq_zero (by omega)
    refine (Tryz.strings_Join_none A c ⟨#[44, 32]⟩ X).mono ?_
    rintro e w' ⟨rfl, rfl⟩
    exact ⟨rfl, Ext.refl _⟩
end Go.Proofs.YtnpenepdechkjaaGreatDoor
