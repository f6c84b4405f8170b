/- The law CiteKeeps: walked (printed by genkw.py). -/
import Derived.Test.YtdbnddmncbjobaaGreatDoorMi
import Derived.Test.YtdbnddmncbjobaaGreatDoorMj
namespace Go.Proofs.YtdbnddmncbjobaaGreatDoor
open Go Go.RowKit

/-- Between two rounds: the book B in the block zb. -/
def KwR (w9 : World) (zb : Nat) (B0 : Bk) (e v : Int) (s22 : Value) (w' : World) : Prop := ∃ (i : Nat) (B : Bk) (As : Option Addr) (ns cs : Nat), i ≤ 5 ∧ s22 = .int .i64 i ∧ KpS B0 e v i B ∧ B.ms = B0.ms ∧ B.ht = B0.ht ∧
  w'.heap[zb]? = some (.cells #[.int .i64 B0.ms, .int .i64 B0.ht, .slice As ns cs] 27 (0, 0)) ∧ ns ≤ cs ∧ kSe.row w' (fun j => j ≠ zb) As ns B.secs ∧ Mv zb w9 w'
theorem row_one {β : Type} {k : Lay β} {W : World} {P : Nat → Prop} {b : Nat} {cs : Array Value} {T : TypeId} {x : β} (h : W.heap[b]? = some (.cells cs T (0, 0))) (hr : k.rep W P x cs.toList) (hp : P b) : k.row W P (some ⟨b, 0, none⟩) 1 [x] := by
  obtain ⟨d0, hd0⟩ : ∃ d0 : Cs k.sz, ccf d0 = cs.toList := ⟨⟨cs.toList, k.len hr, k.one hr⟩, rfl⟩
  refine ⟨[d0], rfl, rfl, ⟨rfl, fun _ => ⟨b, 0, rfl, lt_of_block h, fun i d hd j u hu => ?_⟩⟩, fun a ha => ?_, fun i d y hd hy => ?_⟩
  · cases i with
    | zero =>
      injection hd with hd
      subst hd
      rw [hd0] at hu
      rw [Nat.zero_mul, Nat.zero_add]
      exact cell_of h (by simpa using hu)
    | succ i => cases hd
  · injection ha with ha; subst ha; exact ⟨hp, lt_of_block h⟩
  · cases i with
    | zero =>
      injection hd with hd
      injection hy with hy
      subst hd hy
      show k.rep W P _ (ccf d0)
      rw [hd0]; exact hr
    | succ i => cases hd
theorem kw_bad {w9 Y : World} {zb k : Nat} {B0 B : Bk} {e v : Int} {As : Option Addr} {ns cs : Nat} (hk : k < 5) (h : KpS B0 e v k B) (hm : B.ms = B0.ms) (hh : B.ht = B0.ht) (hb : Y.heap[zb]? = some (.cells #[.int .i64 B0.ms, .int .i64 B0.ht, .slice As ns cs] 27 (0, 0))) (hn : ns ≤ cs)
    (hr : kSe.row Y (fun j => j ≠ zb) As ns B.secs) (hmv : Mv zb w9 Y) : KwR w9 zb B0 e v (.int .i64 ((k : Int) + 1)) Y := ⟨k + 1, B, As, ns, cs, by omega, by simp, h.succ, hm, hh, hb, hn, hr, hmv⟩
theorem kw_ok {w9 Y : World} {zb k : Nat} {B0 B : Bk} {e v : Int} {a0 a1 a2 : Value} {A' : Option Addr} {n' c' : Nat} (hk : k < 5) (h : KpS B0 e v (k + 1) B) (hm : B.ms = B0.ms) (hh : B.ht = B0.ht) (hb : Y.heap[zb]? = some (.cells #[a0, a1, a2] 27 (0, 0))) (hn : n' ≤ c')
    (hr : kSe.row Y (fun j => j ≠ zb) A' n' B.secs) (hmv : Mv zb w9 Y) : KwR w9 zb B0 e v (.int .i64 ((k : Int) + 1)) (((Y.setCell ⟨zb, 0, none⟩ (.int .i64 B0.ms)).setCell ⟨zb, 1, none⟩ (.int .i64 B0.ht)).setCell ⟨zb, 2, none⟩ (.slice A' n' c')) := by
  refine ⟨k + 1, B, A', n', c', by omega, by simp, h, hm, hh, st3 hb _ _ _, hn, Lay.row_keep hr (by simp) fun j hj _ => ?_, ((hmv.trans (Mv.set _)).trans (Mv.set _)).trans (Mv.set _)⟩
  rw [heap_setCell_other _ ⟨zb, 2, none⟩ j _ hj, heap_setCell_other _ ⟨zb, 1, none⟩ j _ hj, heap_setCell_other _ ⟨zb, 0, none⟩ j _ hj]
/-- The next book is laid into the block zn. -/
structure KwY (w9 wF Y : World) (zb zn : Nat) (v0 v1 v2 : Value) : Prop where
  n : Y.heap[zn]? = some (.cells #[v0, v1, v2] 27 (0, 0))
  k : ∀ j, j ≠ zn → Y.heap[j]? = wF.heap[j]?
  s : Y.heap.size = wF.heap.size
  m : Mv zb w9 Y
theorem kw_y {w9 wF : World} {zb zn : Nat} {a0 a1 a2 : Value} (hm : Mv zb w9 wF) (hn : wF.heap[zn]? = some (.cells #[a0, a1, a2] 27 (0, 0))) (hz : w9.heap.size ≤ zn) (v0 v1 v2 : Value) : KwY w9 wF (((wF.setCell ⟨zn, 0, none⟩ v0).setCell ⟨zn, 1, none⟩ v1).setCell ⟨zn, 2, none⟩ v2) zb zn v0 v1 v2 :=
  ⟨st3 hn _ _ _, fun j hj => by rw [heap_setCell_other _ ⟨zn, 2, none⟩ j _ hj, heap_setCell_other _ ⟨zn, 1, none⟩ j _ hj, heap_setCell_other _ ⟨zn, 0, none⟩ j _ hj], by simp, ((hm.setNew (p := ⟨zn, 0, none⟩) hz v0).setNew (p := ⟨zn, 1, none⟩) hz v1).setNew (p := ⟨zn, 2, none⟩) hz v2⟩
/-- What an operation answers: an error, or a book that keeps. -/
def KwO (w14 : World) (B0 : Bk) (e v : Int) (k : Nat) (z : Ending) (wf : World) : Prop := Ext w14 wf ∧ ∃ (m' h' : Int) (A' : Option Addr) (n' c' : Nat) (er : Int), z = .returned (.tuple #[.agg #[.int .i64 m', .int .i64 h', .slice A' n' c'], .int .i64 er]) ∧
  (er ≠ 0 ∨ (er = 0 ∧ m' = B0.ms ∧ h' = B0.ht ∧ ∃ B', KpS B0 e v (k + 1) B' ∧ B'.ms = B0.ms ∧ B'.ht = B0.ht ∧ n' ≤ c' ∧ kSe.row wf (fun j => w14.heap.size ≤ j) A' n' B'.secs))
theorem kw_of {w14 wf : World} {B0 B : Bk} {e v er : Int} {k : Nat} {ls : List Se} {z : Ending} (hm : B.ms = B0.ms) (hh : B.ht = B0.ht) (h : OpPost w14 er B.ms B.ht ls z wf) (hk : er = 0 → KpS B0 e v (k + 1) { B with secs := ls }) : KwO w14 B0 e v k z wf := by
  obtain ⟨hx, ⟨h1, rfl⟩ | ⟨h1, A, n, c, rfl, h2, h3⟩⟩ := h
  · exact ⟨hx, 0, 0, none, 0, 0, er, rfl, .inl h1⟩
  · exact ⟨hx, B.ms, B.ht, A, n, c, 0, rfl, .inr ⟨rfl, hm, hh, _, hk h1, hm, hh, h2, h3⟩⟩
theorem kw_rel {w9 w14 wf Y : World} {zb zn k : Nat} {B0 B : Bk} {e v m' h' er : Int} {As A' : Option Addr} {ns cs n' c' : Nat} (hy : KwY w9 wf Y zb zn (.int .i64 m') (.int .i64 h') (.slice A' n' c')) (hz : w9.heap.size ≤ zn ∧ zb < zn ∧ zn < w14.heap.size) (hx : Ext w14 wf)
    (hb : Y.heap[zb]? = some (.cells #[.int .i64 B0.ms, .int .i64 B0.ht, .slice As ns cs] 27 (0, 0))) (hks : KpS B0 e v k B) (hm : B.ms = B0.ms) (hh : B.ht = B0.ht) (hn : ns ≤ cs) (hr : kSe.row w14 (fun j => j ≠ zb ∧ j ≠ zn) As ns B.secs) (hres : er ≠ 0 ∨ (er = 0 ∧ m' = B0.ms ∧ h' = B0.ht ∧ ∃ B', KpS B0 e v (k + 1) B' ∧ B'.ms = B0.ms ∧ B'.ht = B0.ht ∧ n' ≤ c' ∧ kSe.row wf (fun j => w14.heap.size ≤ j) A' n' B'.secs)) (hk : k < 5) :
    (er = 0 → KwR w9 zb B0 e v (.int .i64 ((k : Int) + 1)) (((Y.setCell ⟨zb, 0, none⟩ (.int .i64 m')).setCell ⟨zb, 1, none⟩ (.int .i64 h')).setCell ⟨zb, 2, none⟩ (.slice A' n' c'))) ∧ (¬ er = 0 → KwR w9 zb B0 e v (.int .i64 ((k : Int) + 1)) Y) := by
  refine ⟨fun h0 => ?_, fun h0 => ?_⟩
  · rcases hres with h1 | ⟨_, rfl, rfl, B', h2, h3, h4, h5, h6⟩
    · exact absurd h0 h1
    · exact kw_ok hk h2 h3 h4 hb h5 (Lay.row_mono (Lay.row_keep h6 (by rw [hy.s]; exact Nat.le_refl _) fun j hj _ => hy.k j (by omega)) fun j hj _ => by omega) hy.m
  · exact kw_bad hk hks hm hh hb hn (Lay.row_mono (Lay.row_keep hr (by rw [hy.s]; exact hx.lt) fun j hj hl => (hy.k j hj.2).trans (hx.block j hl)) fun j hj _ => hj.1) hy.m
/-- The rows of a page and of a line that was found. -/
structure FdR (W : World) (P : Nat → Prop) (p : Pg) (x : Ln) (A7 : Option Addr) (n7 c7 : Nat) (A8 : Option Addr) (n8 c8 : Nat) (A1 : Option Addr) (n1 c1 : Nat) (A2 : Option Addr) (n2 c2 : Nat) : Prop where
  r7 : kLn.row W P A7 n7 p.body
  r8 : kLn.row W P A8 n8 p.nts
  x : kLn.rep W P x [.int .i64 x.fr, .int .i64 x.un, .slice A1 n1 c1, .slice A2 n2 c2]
theorem find_rows {w w' : World} {b : Bk} {n s line : Int} {p : Pg} {x : Ln} {z : Ending} (h : citP b n s line = some (p, x)) (g : FindPost w b n s line z w') :
    ∃ (A7 : Option Addr) (n7 c7 : Nat) (A8 : Option Addr) (n8 c8 : Nat) (A1 : Option Addr) (n1 c1 : Nat) (A2 : Option Addr) (n2 c2 : Nat),
    z = .returned (.tuple #[.agg #[.int .i64 p.num, .int .i64 p.suf, .int .i64 p.ent, .int .i64 p.ver, .slice A7 n7 c7, .slice A8 n8 c8], .agg #[.int .i64 x.fr, .int .i64 x.un, .slice A1 n1 c1, .slice A2 n2 c2], .bool true]) ∧ Ext w w' ∧ FdR w' (fun j => w.heap.size ≤ j) p x A7 n7 c7 A8 n8 c8 A1 n1 c1 A2 n2 c2 := by
  obtain ⟨hx, ⟨h1, _⟩ | ⟨p', x', A7, n7, c7, A8, n8, c8, A1, n1, c1, A2, n2, c2, h1, rfl, _, _, h3, h4, h5, h6, h7, h8⟩⟩ := g
  · rw [h] at h1; cases h1
  · rw [h] at h1
    simp only [Option.some.injEq, Prod.mk.injEq] at h1
    obtain ⟨rfl, rfl⟩ := h1
    exact ⟨A7, n7, c7, A8, n8, c8, A1, n1, c1, A2, n2, c2, rfl, hx, ⟨h3, h4, kLn_rep.2 ⟨A1, n1, c1, A2, n2, c2, rfl, h7, h8, h5, h6⟩⟩⟩
theorem IL.at {w : World} {A : Option Addr} {c : Nat} {l : List Int} (h : IL w A c l) {k : Nat} {x : Int} (hk : l[k]? = some x) : ∃ b off, A = some ⟨b, off, none⟩ ∧ b < w.heap.size ∧ w.cell? ⟨b, off + k, none⟩ = some (.int .i64 x) := by
  obtain ⟨b, off, rfl, hb, hc⟩ := h.sl.2 (by have := (List.getElem?_eq_some_iff.1 hk).1; omega)
  have h1 := hc k x hk 0 (.int .i64 x) rfl
  rw [Nat.mul_one, Nat.add_zero] at h1
  exact ⟨b, off, rfl, hb, h1⟩
set_option maxHeartbeats 8000000 in
set_option maxRecDepth 100000 in
theorem keeps_law (A : Option Addr) (c : Nat) (l : List Int) (Ao : Option Addr) (co : Nat) (ops : List Int) (At : Option Addr) (ct : Nat) (tx : List Int) (a v wd : Int) (w : World) (hL : EnvW w) (hLV : ∀ X, Ext w X → Calls Tryz.prog 47 #[] X (fun e X' => e = .returned (.bool true) ∧ Ext X X'))
    (hl : IL w A c l) (hll : l.length ≤ 9223372036854775807) (ho : IL w Ao co ops) (hol : ops.length ≤ 9223372036854775807) (ht : IL w At ct tx) (htl : (tx.length + 1) * 8 ≤ 140737488355328)
    (ha : -9223372036854775808 ≤ a ∧ a ≤ 9223372036854775807) (hv : -9223372036854775808 ≤ v ∧ v ≤ 9223372036854775807) (hw : -9223372036854775808 ≤ wd ∧ wd ≤ 9223372036854775807) :
    Calls Tryz.prog 14 #[.slice A l.length c, .slice Ao ops.length co, .slice At tx.length ct, .int .i64 a, .int .i64 v, .int .i64 wd] w (fun e w' => e = .returned (.bool true) ∧ Ext w w') := by
  have HBK := Lib.hid (gbook_any A c l w hl hll)
  have HLV := Lib.hid hLV
  have HL := Lib.hid hL
  have HOPS := Lib.hid ho
  have HTXI := Lib.hid ht
  have HPL := Lib.hid (fun (X : World) (P : Nat → Prop) (b : Bk) (A : Option Addr) (N c : Nat) hb hr => place_any P X b a v wd A N c hb hr ha hv hw)
  obtain ⟨m, hm⟩ : ∃ m, l.length = m := ⟨_, rfl⟩
  obtain ⟨mo, hmo⟩ : ∃ m, ops.length = m := ⟨_, rfl⟩
  obtain ⟨mt, hmt⟩ : ∃ m, tx.length = m := ⟨_, rfl⟩
  rw [hm] at HBK ⊢
  rw [hmo] at hol ⊢
  rw [hmt] at htl ⊢
  have HMO := Lib.hid (And.intro hmo hol)
  have HMT := Lib.hid hmt.symm
  have HMT8 := Lib.hid htl
  clear hL hLV hl hll ho hol ht htl ha hv hw hm hmo hmt
  go_enter Tryz.func14, Tryz.ntmps14
  go_upto_region 2 with (first | (go_at_call 39; refine (HBK.out).mono ?_; rintro e w1 ⟨b, A1, n, c1, rfl, hok, hnc, hr, hx⟩) | (go_at_call 35; refine (freeze_any _ _ b A1 n c1 hr ((hok.okB.bkI (by omega) (by omega) (by omega)).s)).mono ?_; rintro z9 w1' ⟨g, rfl, hbk, hx6⟩))
  have hn4 : n ≤ 4 := by have := Lay.row_len hr; have := hok.n; omega
  have hfl : (frzP b).secs.length = n := by rw [Lay.row_len hr]; simp [frzP]
  have hrf := hbk.row
  rw [hfl] at hrf
  have hx1 : Ext w (w1'.alloc (.cells #[.int .i64 b.ms, .int .i64 b.ht, .slice (some ⟨g, 0, none⟩) n n] 27)) := (hx.trans hx6).alloc _
  have hr1 : kSe.row (w1'.alloc (.cells #[.int .i64 b.ms, .int .i64 b.ht, .slice (some ⟨g, 0, none⟩) n n] 27)) (fun j => j ≠ w1'.heap.size) (some ⟨g, 0, none⟩) n (frzP b).secs := Lay.row_ext (Lay.row_mono hrf fun j _ hl => Nat.ne_of_lt hl) ((Ext.refl w1').alloc _)
  have hB := heap_alloc_new w1' (.cells #[.int .i64 b.ms, .int .i64 b.ht, .slice (some ⟨g, 0, none⟩) n n] 27)
  have hzw : w.heap.size ≤ w1'.heap.size := (hx.trans hx6).lt
  obtain ⟨w2, hw2⟩ : ∃ w2, w1'.alloc (.cells #[.int .i64 b.ms, .int .i64 b.ht, .slice (some ⟨g, 0, none⟩) n n] 27) = w2 := ⟨_, rfl⟩
  obtain ⟨zb, hzb⟩ : ∃ zb, w1'.heap.size = zb := ⟨_, rfl⟩
  rw [hw2] at hx1 hr1 hB ⊢
  rw [hzb] at hr1 hB hzw ⊢
  have HZB := Lib.hid hzw
  have HB := Lib.hid hB
  have HX := Lib.hid hx1
  have HR := Lib.hid hr1
  have HOK := Lib.hid hok.okB.frz
  have HBI := Lib.hid (hok.okB.frz.bkI (by omega) (by omega) (by omega))
  have HAL := Lib.hid (frzP_all b)
  have b0 := cell_of hB (i := 0) (u := .int .i64 b.ms) rfl
  have b1 := cell_of hB (i := 1) (u := .int .i64 b.ht) rfl
  have b2 := cell_of hB (i := 2) (u := .slice (some ⟨g, 0, none⟩) n n) rfl
  clear hx hr hok hnc hx1 hr1 hB hw2 hzb HBK hrf hfl hbk hx6 hn4 hzw
  have HP2 := Lib.hid (show Calls Tryz.prog 40 #[.agg #[.int .i64 b.ms, .int .i64 b.ht, .slice (some ⟨g, 0, none⟩) n n], .int .i64 a, .int .i64 v, .int .i64 wd] w2 (PlaceGet w2) from HPL.out w2 _ (frzP b) (some ⟨g, 0, none⟩) n n (HOK.out.big (by omega) (by omega)) HR.out)
  clear HPL
  go_upto_region 3 with (first | (go_at_call 40; refine (HP2.out).mono ?_; rintro z w3 ⟨e, x, y, rfl, hx⟩))
  have HX3 := Lib.hid (HX.out.trans hx)
  have HR3 := Lib.hid (Lay.row_ext HR.out hx)
  have HB3 := Lib.hid ((hx.block _ (lt_of_block HB.out)).trans HB.out)
  have b0 := cell_of HB3.out (i := 0) (u := .int .i64 b.ms) rfl
  have b1 := cell_of HB3.out (i := 1) (u := .int .i64 b.ht) rfl
  have b2 := cell_of HB3.out (i := 2) (u := .slice (some ⟨g, 0, none⟩) n n) rfl
  clear hx HP2 HX HR HB
  have HO1 := Lib.hid (show Calls Tryz.prog 48 #[.agg #[.int .i64 b.ms, .int .i64 b.ht, .slice (some ⟨g, 0, none⟩) n n], .int .i64 0, .int .i64 e, .int .i64 x, .int .i64 y] w3 (OfG w3 (frzP b) 0 e x y) from of_gen _ w3 (frzP b) 0 e x y _ n n HBI.out HR3.out (HL.out.ext HX3.out))
  rcases leads_plain HOK.out HAL.out 0 e x y (by omega) (by omega) with ⟨hw, ho⟩ | ⟨nn, s, i, p, ln, hw, ho, hc, he, hv, hfr, hun, hi, hct⟩
  · have HO := Lib.hid ho
    clear hw ho
    go_upto_if 53 with (first | (go_at_call 48; refine (HO1.out).mono ?_; intro z w4 hz; obtain ⟨rfl, hx⟩ := of_no HO.out hz))
    have HX5 := Lib.hid (show Ext w (w4.alloc (.cells #[.int .i64 0, .int .i64 0, .int .i64 0, .int .i64 0] 69)) from (HX3.out.trans hx).alloc _)
    have HLW := Lib.hid (HLV.out _ HX5.out)
    clear hx HO1
    go_wp2_with (first | (go_at_call 47; refine (HLW.out).mono ?_; rintro z11 w9 ⟨rfl, hx9⟩))
    go_ret
    exact ⟨rfl, HX5.out.trans hx9⟩
  · have HO := Lib.hid ho
    have HC := Lib.hid hc
    have HI := Lib.hid hi
    have HKS := Lib.hid (KpS.start HOK.out HAL.out ho)
    clear hw ho hc he hv hfr hun hi hct
    go_upto_if 53 with (first | (go_at_call 48; refine (HO1.out).mono ?_; intro z w4 hz; obtain ⟨rfl, hx⟩ := of_yes HO.out hz))
    have hx5 : Ext w3 (w4.alloc (.cells #[.int .i64 0, .int .i64 nn, .int .i64 s, .int .i64 i] 69)) := hx.alloc _
    have hz := heap_alloc_new w4 (.cells #[.int .i64 0, .int .i64 nn, .int .i64 s, .int .i64 i] 69)
    obtain ⟨w5, hw5⟩ : ∃ w5, w4.alloc (.cells #[.int .i64 0, .int .i64 nn, .int .i64 s, .int .i64 i] 69) = w5 := ⟨_, rfl⟩
    obtain ⟨zc, hzz⟩ : ∃ z, w4.heap.size = z := ⟨_, rfl⟩
    have hzc : zb < w4.heap.size := Nat.lt_of_lt_of_le (lt_of_block HB3.out) hx.lt
    rw [hw5] at hx5 hz ⊢
    rw [hzz] at hz hzc ⊢
    have HZC := Lib.hid (show zb < zc from hzc)
    have HZ := Lib.hid hz
    have HX5 := Lib.hid (HX3.out.trans hx5)
    have HR5 := Lib.hid (Lay.row_ext HR3.out hx5)
    have hB5 := (hx5.block _ (lt_of_block HB3.out)).trans HB3.out
    have HB5 := Lib.hid hB5
    have b0 := cell_of hB5 (i := 0) (u := .int .i64 b.ms) rfl
    have b1 := cell_of hB5 (i := 1) (u := .int .i64 b.ht) rfl
    have b2 := cell_of hB5 (i := 2) (u := .slice (some ⟨g, 0, none⟩) n n) rfl
    have a0 := cell_of hz (i := 0) (u := .int .i64 0) rfl
    have a1 := cell_of hz (i := 1) (u := .int .i64 nn) rfl
    have a2 := cell_of hz (i := 2) (u := .int .i64 s) rfl
    have a3 := cell_of hz (i := 3) (u := .int .i64 i) rfl
    clear hx hx5 hz hw5 hzz hB5 HO1 HX3 HB3 HR3 hzc
    have HFD := Lib.hid (show Calls Tryz.prog 44 #[.agg #[.int .i64 b.ms, .int .i64 b.ht, .slice (some ⟨g, 0, none⟩) n n], .agg #[.int .i64 0, .int .i64 nn, .int .i64 s, .int .i64 i]] w5 (FindPost w5 (frzP b) nn s i) from find_cite _ w5 (frzP b) 0 nn s i _ n n HBI.out HR5.out (HL.out.ext HX5.out) (by omega) (by have := HI.out; omega))
    go_upto_if 63 with (first | (go_at_call 44; refine (HFD.out).mono ?_; intro z9 w8 hz; obtain ⟨A7, n7, c7, A8, n8, c8, A9, n9, c9, A2, n2, c2, rfl, hx, hq⟩ := find_rows HC.out hz))
    have HIX := Lib.hid (show Ext w5 w8 from hx)
    obtain ⟨O8, hO8⟩ : ∃ O, (Obj.cells #[.int .i64 p.num, .int .i64 p.suf, .int .i64 p.ent, .int .i64 p.ver, .slice A7 n7 c7, .slice A8 n8 c8] 84) = O := ⟨_, rfl⟩
    obtain ⟨O9, hO9⟩ : ∃ O, (Obj.cells #[.int .i64 ln.fr, .int .i64 ln.un, .slice A9 n9 c9, .slice A2 n2 c2] 86) = O := ⟨_, rfl⟩
    have hx9 : Ext w8 ((w8.alloc O8).alloc O9) := ((Ext.refl _).alloc _).alloc _
    have h8 : ((w8.alloc O8).alloc O9).heap[w8.heap.size]? = some (.cells #[.int .i64 p.num, .int .i64 p.suf, .int .i64 p.ent, .int .i64 p.ver, .slice A7 n7 c7, .slice A8 n8 c8] 84 (0, 0)) := by
      rw [← hO8, heap_alloc_old _ _ _ (by rw [World.size_alloc]; omega)]
      exact heap_alloc_new w8 _
    have h9 : ((w8.alloc O8).alloc O9).heap[w8.heap.size + 1]? = some (.cells #[.int .i64 ln.fr, .int .i64 ln.un, .slice A9 n9 c9, .slice A2 n2 c2] 86 (0, 0)) := by
      rw [← hO9]
      exact heap_alloc_at _ _ _ _ (by rw [World.size_alloc])
    rw [hO8, hO9]
    obtain ⟨w9, hw9⟩ : ∃ w9, (w8.alloc O8).alloc O9 = w9 := ⟨_, rfl⟩
    obtain ⟨z9, hz9⟩ : ∃ z, w8.heap.size + 1 = z := ⟨_, rfl⟩
    obtain ⟨z8, hz8⟩ : ∃ z, w8.heap.size = z := ⟨_, rfl⟩
    rw [hw9] at hx9 h8 h9 ⊢
    rw [hz9] at h9 ⊢
    rw [hz8] at h8 ⊢
    have hz5 : w5.heap.size ≤ z8 := by rw [← hz8]; exact hx.lt
    have H8 := Lib.hid h8
    have H9 := Lib.hid h9
    have hx59 : Ext w5 w9 := hx.trans hx9
    have HX9 := Lib.hid (HX5.out.trans hx59)
    have HZ9 := Lib.hid ((hx59.block _ (lt_of_block HZ.out)).trans HZ.out)
    have HB9 := Lib.hid ((hx59.block _ (lt_of_block HB5.out)).trans HB5.out)
    have HR9 := Lib.hid (Lay.row_ext HR5.out hx59)
    have hzb5 := lt_of_block HB5.out
    have HQR := Lib.hid (show FdR w9 (fun j => j ≠ zb) p ln A7 n7 c7 A8 n8 c8 A9 n9 c9 A2 n2 c2 from ⟨Lay.row_mono (Lay.row_ext hq.r7 hx9) fun j hj _ => by omega, Lay.row_mono (Lay.row_ext hq.r8 hx9) fun j hj _ => by omega, kLn.mono (kLn.ext hq.x hx9) fun j hj _ => by omega⟩)
    have HZZ := Lib.hid (show zb < z8 ∧ zb < z9 ∧ zb < w9.heap.size from ⟨by omega, by omega, lt_of_block HB9.out⟩)
    have HM := Lib.hid (Lay.row_len HR9.out)
    clear hw9 hz9 hz8 hO8 hO9 hx9 h8 h9 hx59 hx hq b0 b1 b2 a0 a1 a2 a3 HFD HIX HX5 HR5 HB5 HZ hz5 hzb5 O8 O9
    go_upto_region 10 with (fail)
    go_loopw [22, 23, 24, 25, 26] (fun s22 _ _ _ _ w' => KwR w9 zb (frzP b) e x s22 w') (fun s22 _ _ _ _ _ => toM 5 s22)
    case atStart => exact ⟨0, frzP b, some ⟨g, 0, none⟩, n, n, by omega, rfl, HKS.out, rfl, rfl, HB9.out, Nat.le_refl _, HR9.out, Mv.refl _ _⟩
    case round =>
      obtain ⟨k, B, As, ns, cs, hk5, rfl, hks, hms, hht, hbz, hnc, hrow, hmv⟩ := hrel
      have HKB := Lib.hid hks
      have HMS := Lib.hid (And.intro hms hht)
      have HBZ := Lib.hid hbz
      have HROW := Lib.hid hrow
      have HMV := Lib.hid hmv
      have HNC := Lib.hid hnc
      have HXR := Lib.hid (hmv.ext w (by have := HZB.out; omega) HX9.out)
      clear hks hms hht hbz hrow hmv hnc
      by_cases hlt : k < mo ∧ k < 5
      case neg =>
        go_upto_region 10 with (fail)
        go_cut [71] (fun s71 wx => s71 = .bool false ∧ wx = wr)
        case first =>
          by_cases h1 : k < mo
          · have h2 : ¬ (k : Int) < 5 := by omega
            have h3 : (k : Int) < (mo : Int) := by omega
            clear hlt h1
            go_wp2_with fail
            go_meet
            case rel => exact ⟨rfl, rfl⟩
          · have h3 : ¬ (k : Int) < (mo : Int) := by omega
            clear hlt h1
            go_wp2_with fail
            go_meet
            case rel => exact ⟨rfl, rfl⟩
        case rest =>
          obtain ⟨rfl, rfl⟩ := hcut
          have hzz := HZZ.out
          have hzcn : zc ≠ zb := by have := HZC.out; omega
          have HZE := Lib.hid ((HMV.out.keep zc hzcn (lt_of_block HZ9.out)).trans HZ9.out)
          have H8E := Lib.hid ((HMV.out.keep z8 (by omega) (lt_of_block H8.out)).trans H8.out)
          have H9E := Lib.hid ((HMV.out.keep z9 (by omega) (lt_of_block H9.out)).trans H9.out)
          have HQE := Lib.hid (show FdR wc (fun j => j ≠ zb) p ln A7 n7 c7 A8 n8 c8 A9 n9 c9 A2 n2 c2 from ⟨Lay.row_keep HQR.out.r7 HMV.out.size fun j hj hl => HMV.out.keep j hj hl, Lay.row_keep HQR.out.r8 HMV.out.size fun j hj hl => HMV.out.keep j hj hl, kLn.keep HQR.out.x HMV.out.size fun j hj hl => HMV.out.keep j hj hl⟩)
          have HBK := Lib.hid (HKB.out.ok.big (N' := 10) (V' := 9) (by omega) (by omega))
          have HBI2 := Lib.hid (HBK.out.bkI (by omega) (by omega) (by omega))
          have HCB := Lib.hid (HKB.out.find HC.out)
          have HOB := Lib.hid (HKB.out.of HO.out)
          have hbE := HBZ.out
          have b0 := cell_of hbE (i := 0) (u := .int .i64 b.ms) rfl
          have b1 := cell_of hbE (i := 1) (u := .int .i64 b.ht) rfl
          have b2 := cell_of hbE (i := 2) (u := .slice As ns cs) rfl
          have hzE := HZE.out
          have a0 := cell_of hzE (i := 0) (u := .int .i64 0) rfl
          have a1 := cell_of hzE (i := 1) (u := .int .i64 nn) rfl
          have a2 := cell_of hzE (i := 2) (u := .int .i64 s) rfl
          have a3 := cell_of hzE (i := 3) (u := .int .i64 i) rfl
          have HFD2 := Lib.hid (show Calls Tryz.prog 44 #[.agg #[.int .i64 b.ms, .int .i64 b.ht, .slice As ns cs], .agg #[.int .i64 0, .int .i64 nn, .int .i64 s, .int .i64 i]] wc (FindPost wc B nn s i) from by
            have e1 : B.ms = b.ms := HMS.out.1
            have e2 : B.ht = b.ht := HMS.out.2
            rw [← e1, ← e2]
            exact find_cite _ wc B 0 nn s i As ns cs HBI2.out HROW.out (HL.out.ext HXR.out) (by omega) (by have := HI.out; omega))
          have HOF2 := Lib.hid (fun X (hX : Ext wc X) => (show Calls Tryz.prog 48 #[.agg #[.int .i64 b.ms, .int .i64 b.ht, .slice As ns cs], .int .i64 0, .int .i64 e, .int .i64 x, .int .i64 y] X (OfG X B 0 e x y) from by
            have e1 : B.ms = b.ms := HMS.out.1
            have e2 : B.ht = b.ht := HMS.out.2
            rw [← e1, ← e2]
            exact of_gen _ X B 0 e x y As ns cs HBI2.out (Lay.row_ext HROW.out hX) (HL.out.ext (HXR.out.trans hX))))
          clear hlt hzz hbE hzE HQR HZ9 H8 H9 HB9 HR9
          go_upto_region 27 with (first | (go_at_call 44; refine (HFD2.out).mono ?_; intro q9 v8 hq; obtain ⟨C7, k7, l7, C8, k8, l8, C9, k9, l9, C2, k2, l2, rfl, hx, hqq⟩ := find_rows HCB.out hq))
          have HQF := Lib.hid hqq
          have HXF := Lib.hid hx
          obtain ⟨O8, hO8⟩ : ∃ O, (Obj.cells #[.int .i64 p.num, .int .i64 p.suf, .int .i64 p.ent, .int .i64 p.ver, .slice C7 k7 l7, .slice C8 k8 l8] 84) = O := ⟨_, rfl⟩
          obtain ⟨O9, hO9⟩ : ∃ O, (Obj.cells #[.int .i64 ln.fr, .int .i64 ln.un, .slice C9 k9 l9, .slice C2 k2 l2] 86) = O := ⟨_, rfl⟩
          rw [hO8, hO9]
          have hxv : Ext v8 ((v8.alloc O8).alloc O9) := ((Ext.refl _).alloc _).alloc _
          have g8 : ((v8.alloc O8).alloc O9).heap[v8.heap.size]? = some (.cells #[.int .i64 p.num, .int .i64 p.suf, .int .i64 p.ent, .int .i64 p.ver, .slice C7 k7 l7, .slice C8 k8 l8] 84 (0, 0)) := by
            rw [← hO8, heap_alloc_old _ _ _ (by rw [World.size_alloc]; omega)]
            exact heap_alloc_new v8 _
          have g9 : ((v8.alloc O8).alloc O9).heap[v8.heap.size + 1]? = some (.cells #[.int .i64 ln.fr, .int .i64 ln.un, .slice C9 k9 l9, .slice C2 k2 l2] 86 (0, 0)) := by
            rw [← hO9]
            exact heap_alloc_at _ _ _ _ (by rw [World.size_alloc])
          obtain ⟨v9, hv9⟩ : ∃ v, (v8.alloc O8).alloc O9 = v := ⟨_, rfl⟩
          obtain ⟨y9, hy9⟩ : ∃ z, v8.heap.size + 1 = z := ⟨_, rfl⟩
          obtain ⟨y8, hy8⟩ : ∃ z, v8.heap.size = z := ⟨_, rfl⟩
          rw [hv9] at hxv g8 g9 ⊢
          rw [hy9] at g9 ⊢
          rw [hy8] at g8 ⊢
          have HXV := Lib.hid (HXF.out.trans hxv)
          have HQV := Lib.hid (show FdR v9 (fun j => wc.heap.size ≤ j) p ln C7 k7 l7 C8 k8 l8 C9 k9 l9 C2 k2 l2 from ⟨Lay.row_ext HQF.out.r7 hxv, Lay.row_ext HQF.out.r8 hxv, kLn.ext HQF.out.x hxv⟩)
          have G8 := Lib.hid g8
          have G9 := Lib.hid g9
          have hb9 := (HXV.out.block _ (lt_of_block HBZ.out)).trans HBZ.out
          have b0 := cell_of hb9 (i := 0) (u := .int .i64 b.ms) rfl
          have b1 := cell_of hb9 (i := 1) (u := .int .i64 b.ht) rfl
          have b2 := cell_of hb9 (i := 2) (u := .slice As ns cs) rfl
          have HO2 := Lib.hid (HOF2.out v9 HXV.out)
          clear hv9 hy9 hy8 hO8 hO9 hxv g8 g9 hb9 hqq hx a0 a1 a2 a3 HFD2 HQF HXF O8 O9
          go_upto_region 28 with (first | (go_at_call 48; refine (HO2.out).mono ?_; intro q9 va hq; obtain ⟨rfl, hx⟩ := of_yes HOB.out hq))
          have hxa : Ext v9 (va.alloc (.cells #[.int .i64 0, .int .i64 nn, .int .i64 s, .int .i64 i] 69)) := hx.alloc _
          have ga := heap_alloc_new va (.cells #[.int .i64 0, .int .i64 nn, .int .i64 s, .int .i64 i] 69)
          obtain ⟨vb, hvb⟩ : ∃ v, va.alloc (.cells #[.int .i64 0, .int .i64 nn, .int .i64 s, .int .i64 i] 69) = v := ⟨_, rfl⟩
          obtain ⟨ya, hya⟩ : ∃ z, va.heap.size = z := ⟨_, rfl⟩
          rw [hvb] at hxa ga ⊢
          rw [hya] at ga ⊢
          have HXB := Lib.hid (HXV.out.trans hxa)
          have kz := (HXB.out.block _ (lt_of_block HZE.out)).trans HZE.out
          have k8' := (HXB.out.block _ (lt_of_block H8E.out)).trans H8E.out
          have k9' := (HXB.out.block _ (lt_of_block H9E.out)).trans H9E.out
          have m8 := (hxa.block _ (lt_of_block G8.out)).trans G8.out
          have m9 := (hxa.block _ (lt_of_block G9.out)).trans G9.out
          have HQB := Lib.hid (show FdR vb (fun j => wc.heap.size ≤ j) p ln C7 k7 l7 C8 k8 l8 C9 k9 l9 C2 k2 l2 from ⟨Lay.row_ext HQV.out.r7 hxa, Lay.row_ext HQV.out.r8 hxa, kLn.ext HQV.out.x hxa⟩)
          have HQC := Lib.hid (show FdR vb (fun j => j ≠ zb) p ln A7 n7 c7 A8 n8 c8 A9 n9 c9 A2 n2 c2 from ⟨Lay.row_ext HQE.out.r7 HXB.out, Lay.row_ext HQE.out.r8 HXB.out, kLn.ext HQE.out.x HXB.out⟩)
          have HK89 := Lib.hid (And.intro k9' m9)
          have a0 := cell_of kz (i := 0) (u := .int .i64 0) rfl
          have a1 := cell_of kz (i := 1) (u := .int .i64 nn) rfl
          have a2 := cell_of kz (i := 2) (u := .int .i64 s) rfl
          have a3 := cell_of kz (i := 3) (u := .int .i64 i) rfl
          have e0 := cell_of ga (i := 0) (u := .int .i64 0) rfl
          have e1 := cell_of ga (i := 1) (u := .int .i64 nn) rfl
          have e2 := cell_of ga (i := 2) (u := .int .i64 s) rfl
          have e3 := cell_of ga (i := 3) (u := .int .i64 i) rfl
          have p0 := cell_of k8' (i := 0) (u := .int .i64 p.num) rfl
          have p1 := cell_of k8' (i := 1) (u := .int .i64 p.suf) rfl
          have p2 := cell_of k8' (i := 2) (u := .int .i64 p.ent) rfl
          have p3 := cell_of k8' (i := 3) (u := .int .i64 p.ver) rfl
          have p4 := cell_of k8' (i := 4) (u := .slice A7 n7 c7) rfl
          have p5 := cell_of k8' (i := 5) (u := .slice A8 n8 c8) rfl
          have r0 := cell_of m8 (i := 0) (u := .int .i64 p.num) rfl
          have r1 := cell_of m8 (i := 1) (u := .int .i64 p.suf) rfl
          have r2 := cell_of m8 (i := 2) (u := .int .i64 p.ent) rfl
          have r3 := cell_of m8 (i := 3) (u := .int .i64 p.ver) rfl
          have r4 := cell_of m8 (i := 4) (u := .slice C7 k7 l7) rfl
          have r5 := cell_of m8 (i := 5) (u := .slice C8 k8 l8) rfl
          clear hvb hya hxa ga kz k8' k9' m8 m9 hx b0 b1 b2 HOF2 HO2 HQV HQE
          go_upto_if 174 with (fail)
          have l0 := cell_of HK89.out.1 (i := 0) (u := .int .i64 ln.fr) rfl
          have l1' := cell_of HK89.out.1 (i := 1) (u := .int .i64 ln.un) rfl
          have l2' := cell_of HK89.out.1 (i := 2) (u := .slice A9 n9 c9) rfl
          have l3 := cell_of HK89.out.1 (i := 3) (u := .slice A2 n2 c2) rfl
          have j0 := cell_of HK89.out.2 (i := 0) (u := .int .i64 ln.fr) rfl
          have j1 := cell_of HK89.out.2 (i := 1) (u := .int .i64 ln.un) rfl
          have j2 := cell_of HK89.out.2 (i := 2) (u := .slice C9 k9 l9) rfl
          have j3 := cell_of HK89.out.2 (i := 3) (u := .slice C2 k2 l2) rfl
          obtain ⟨hpm, hlm⟩ := cit_mem HC.out
          have hlns := HOK.out.lns p hpm
          have hlb : ln.gaps.length ≤ 1000000 ∧ ln.nts.length ≤ 1000000 := by
            rcases hlm with h | h
            · exact hlns.1 ln h
            · exact hlns.2 ln h
          have hpi := HBI.out.ln
          have hgt := HOK.out.hgt p hpm
          rw [List.length_append] at hgt
          obtain ⟨L1, hL1⟩ : ∃ O : Array Value, #[.int .i64 ln.fr, .int .i64 ln.un, .slice A9 n9 c9, .slice A2 n2 c2] = O := ⟨_, rfl⟩
          have HSA := Lib.hid (show Calls Tryz.prog 46 #[.slice (some ⟨vb.heap.size, 0, none⟩) 1 1, .slice (some ⟨vb.heap.size + 1, 0, none⟩) 1 1] ((vb.alloc (.cells #[.int .i64 ln.fr, .int .i64 ln.un, .slice A9 n9 c9, .slice A2 n2 c2] 86)).alloc (.cells #[.int .i64 ln.fr, .int .i64 ln.un, .slice C9 k9 l9, .slice C2 k2 l2] 86)) (QuT ((vb.alloc (.cells #[.int .i64 ln.fr, .int .i64 ln.un, .slice A9 n9 c9, .slice A2 n2 c2] 86)).alloc (.cells #[.int .i64 ln.fr, .int .i64 ln.un, .slice C9 k9 l9, .slice C2 k2 l2] 86))) from by
            have hxx : Ext vb ((vb.alloc (.cells #[.int .i64 ln.fr, .int .i64 ln.un, .slice A9 n9 c9, .slice A2 n2 c2] 86)).alloc (.cells #[.int .i64 ln.fr, .int .i64 ln.un, .slice C9 k9 l9, .slice C2 k2 l2] 86)) := ((Ext.refl _).alloc _).alloc _
            refine sameL_any (fun _ => True) (fun _ => True) _ _ _ 1 1 1 1 [ln] (row_one (T := 86) ?_ (kLn.mono (kLn.ext HQC.out.x hxx) fun _ _ _ => trivial) trivial) (row_one (T := 86) ?_ (kLn.mono (kLn.ext HQB.out.x hxx) fun _ _ _ => trivial) trivial) (by omega) (fun z hz => by simp only [List.mem_singleton] at hz; subst hz; exact hlb)
            · exact (heap_alloc_old _ _ _ (by simp)).trans (heap_alloc_at _ _ _ _ rfl)
            · exact heap_alloc_at _ _ _ _ (by simp))
          have HSB := Lib.hid (fun X (hX : Ext vb X) => (show Calls Tryz.prog 46 #[.slice A7 n7 c7, .slice C7 k7 l7] X (QuT X) from sameL_any _ _ X A7 C7 n7 k7 c7 l7 p.body (Lay.row_ext HQC.out.r7 hX) (Lay.row_ext HQB.out.r7 hX) (by have := Lay.row_len HQC.out.r7; omega) hlns.1))
          have HSC := Lib.hid (fun X (hX : Ext vb X) => (show Calls Tryz.prog 46 #[.slice A8 n8 c8, .slice C8 k8 l8] X (QuT X) from sameL_any _ _ X A8 C8 n8 k8 c8 l8 p.nts (Lay.row_ext HQC.out.r8 hX) (Lay.row_ext HQB.out.r8 hX) (by have := Lay.row_len HQC.out.r8; omega) hlns.2))
          have J0 := fun o : Obj => (show (vb.alloc o).cell? ⟨y9, 0, none⟩ = some (.int .i64 ln.fr) from ((((Ext.refl vb).alloc o).cells.1 y9 0 (World.block_lt_of_cell? vb _ j0))).trans j0)
          have J1 := fun o : Obj => (show (vb.alloc o).cell? ⟨y9, 1, none⟩ = some (.int .i64 ln.un) from ((((Ext.refl vb).alloc o).cells.1 y9 1 (World.block_lt_of_cell? vb _ j1))).trans j1)
          have J2 := fun o : Obj => (show (vb.alloc o).cell? ⟨y9, 2, none⟩ = some (.slice C9 k9 l9) from ((((Ext.refl vb).alloc o).cells.1 y9 2 (World.block_lt_of_cell? vb _ j2))).trans j2)
          have J3 := fun o : Obj => (show (vb.alloc o).cell? ⟨y9, 3, none⟩ = some (.slice C2 k2 l2) from ((((Ext.refl vb).alloc o).cells.1 y9 3 (World.block_lt_of_cell? vb _ j3))).trans j3)
          have Kp4 := fun o o' : Obj => (show ((vb.alloc o).alloc o').cell? ⟨z8, 4, none⟩ = some (.slice A7 n7 c7) from (((((Ext.refl vb).alloc o).alloc o').cells.1 z8 4 (World.block_lt_of_cell? vb _ p4))).trans p4)
          have Kp5 := fun o o' : Obj => (show ((vb.alloc o).alloc o').cell? ⟨z8, 5, none⟩ = some (.slice A8 n8 c8) from (((((Ext.refl vb).alloc o).alloc o').cells.1 z8 5 (World.block_lt_of_cell? vb _ p5))).trans p5)
          have Kr4 := fun o o' : Obj => (show ((vb.alloc o).alloc o').cell? ⟨y8, 4, none⟩ = some (.slice C7 k7 l7) from (((((Ext.refl vb).alloc o).alloc o').cells.1 y8 4 (World.block_lt_of_cell? vb _ r4))).trans r4)
          have Kr5 := fun o o' : Obj => (show ((vb.alloc o).alloc o').cell? ⟨y8, 5, none⟩ = some (.slice C8 k8 l8) from (((((Ext.refl vb).alloc o).alloc o').cells.1 y8 5 (World.block_lt_of_cell? vb _ r5))).trans r5)
          have HXW := Lib.hid (HXR.out.trans HXB.out)
          clear hL1 hpm hlm hlns hlb hpi hgt HQB HQC HK89 a0 a1 a2 a3 e0 e1 e2 e3 p0 p1 p2 p3 r0 r1 r2 r3 p4 p5 r4 r5 j0 j1 j2 j3 L1
          go_wp2_with (first
            | (go_at_call_of 46 (Value.slice (some ⟨vb.heap.size, 0, none⟩) 1 1); refine (HSA.out).mono ?_; rintro q9 wv ⟨rfl, mm, rfl⟩)
            | (go_at_call_of 46 (Value.slice A7 n7 c7); refine (HSB.out _ (by first | exact (((Ext.refl vb).alloc _).alloc _).drewN _)).mono ?_; rintro q9 wv ⟨rfl, mm2, rfl⟩)
            | (go_at_call_of 46 (Value.slice A8 n8 c8); refine (HSC.out _ (by first | exact ((((Ext.refl vb).alloc _).alloc _).drewN _).drewN _ | exact (((Ext.refl vb).alloc _).alloc _).drewN _)).mono ?_; rintro q9 wv ⟨rfl, mm3, rfl⟩)
            | (go_at_call 47; refine (HLV.out _ (HXW.out.trans (by first | exact (((((Ext.refl vb).alloc _).alloc _).drewN _).drewN _).drewN _ | exact (((Ext.refl vb).alloc _).alloc _).drewN _))).mono ?_; rintro q9 wz ⟨rfl, hxz⟩))
          go_ret
          exact ⟨rfl, (HXW.out.trans (by first | exact (((((Ext.refl vb).alloc _).alloc _).drewN _).drewN _).drewN _ | exact (((Ext.refl vb).alloc _).alloc _).drewN _)).trans hxz⟩
      obtain ⟨h1, h5⟩ := hlt
      have hI : (k : Int) < (mo : Int) := by omega
      have hI5 : (k : Int) < 5 := by omega
      obtain ⟨oi, hoi⟩ : ∃ x, ops[k]? = some x := ⟨_, List.getElem?_eq_getElem (by have := HMO.out.1; omega)⟩
      obtain ⟨bo, oo, rfl, hbo, hco⟩ := HOPS.out.at hoi
      have HOI := Lib.hid (HOPS.out.ok oi (List.mem_of_getElem? hoi))
      have hbw : bo ≠ zb := by have := HZB.out; omega
      have HSL := Lib.hid (fun X (hX : Ext wr X) => (show X.cell? ⟨bo, oo + k, none⟩ = some (.int .i64 oi) from (hX.cells.1 bo _ (Nat.lt_of_lt_of_le hbo HXR.out.lt)).trans ((HXR.out.cells.1 bo _ hbo).trans hco)))
      have HAR := Lib.hid (fun X => around_fn oi 1000 X HOI.out.1 HOI.out.2 (by omega) (by omega))
      obtain ⟨r, hr0⟩ : ∃ r, arnd oi 1000 = r := ⟨_, rfl⟩
      have HR0 := Lib.hid (show 0 ≤ r ∧ r < 1000 by rw [← hr0]; exact arnd_in oi 1000 (by omega))
      rw [hr0] at HAR
      have c0 := HSL.out wr (Ext.refl _)
      clear hr0 hoi hco h1 h5
      go_upto_region 13 with (first | (go_at_call 42; refine (HAR.out _).mono ?_; rintro z w3' ⟨rfl, rfl⟩))
      have HTXS := Lib.hid (fun X (hX : Ext wr X) => (show SL icf 1 X At tx.length tx from HTXI.out.sl.ext (HXR.out.trans hX)))
      have HTG := Lib.hid (fun X (Av : Option Addr) (n' c' : Nat) (_ : n' = (([] ++ tx) ++ [oi]).length) (hoI : OI X wr.heap.size (.slice Av n' c') (([] ++ tx) ++ [oi])) => (show Calls Tryz.prog 36 #[.slice Av n' c'] X (fun e w' => ∃ t v, e = .returned v ∧ OkT t ∧ GT X.heap.size t v w' ∧ Ext X w') from by
        obtain ⟨A9, c9, e9, _, hs9⟩ := hoI.form
        obtain ⟨rfl, rfl, rfl⟩ := Value.slice.inj e9
        exact gtext_lay _ _ _ X (fun z hz => by
          rcases List.mem_append.1 hz with hz | hz
          · exact HTXI.out.ok z (by simpa using hz)
          · simp only [List.mem_singleton] at hz; subst hz; exact HOI.out) hs9))
      go_cut [24] (fun s24 wx => KwT wr s24 wx)
      case first =>
        have hR0 := RG.start wr (Ext.refl wr).drew
        have hS0 : (fun X : World => X.cell? ⟨bo, oo + k, none⟩ = some (.int .i64 oi)) wr.drew := HSL.out _ (Ext.refl wr).drew
        refine wp_region_E (fun X : World => X.cell? ⟨bo, oo + k, none⟩ = some (.int .i64 oi)) (fun _ => True) (fun _ => false) (by kernel_rfl) ?_
        obtain ⟨X0, hX0⟩ : ∃ x, wr.drew = x := ⟨_, rfl⟩
        rw [hX0] at hR0 hS0 ⊢
        have HR0 := Lib.hid hR0
        clear hR0 hX0
        refine wpE_takeS (i := 1) (d := some 80) (v := .slice At mt ct) rfl rfl (by kernel_rfl) (by kernel_rfl) (by kernel_rfl) (by kernel_rfl) (fun _ _ _ h => h) (by rfl) ?hy1 hS0 trivial ?go1
        case hy1 =>
          intro w9 hT9
          clear hT9; go_simp
        (try simp only [Act.put, List.setIfInBounds_toArray, List.set_cons_zero, List.set_cons_succ])
        refine wpE_takeS (i := 3) (d := some 82) (v := .slice (some ⟨bo, oo, none⟩) mo co) rfl rfl (by kernel_rfl) (by kernel_rfl) (by kernel_rfl) (by kernel_rfl) (fun _ _ _ h => h) (by rfl) ?hy2 hS0 trivial ?go2
        case hy2 =>
          intro w9 hT9
          clear hT9; go_simp
        (try simp only [Act.put, List.setIfInBounds_toArray, List.set_cons_zero, List.set_cons_succ])
        refine wpE_takeS (i := 4) (d := some 83) (v := .int .i64 k) rfl rfl (by kernel_rfl) (by kernel_rfl) (by kernel_rfl) (by kernel_rfl) (fun _ _ _ h => h) (by rfl) ?hy3 hS0 trivial ?go3
        case hy3 =>
          intro w9 hT9
          clear hT9; go_simp
        (try simp only [Act.put, List.setIfInBounds_toArray, List.set_cons_zero, List.set_cons_succ])
        refine wpE_takeS (i := 5) (d := some 84) (v := .pointer (some ⟨bo, oo + k, none⟩)) rfl rfl (by kernel_rfl) (by kernel_rfl) (by kernel_rfl) (by kernel_rfl) (fun _ _ _ h => h) (by rfl) ?hy4 hS0 trivial ?go4
        case hy4 =>
          intro w9 hT9
          clear hT9; go_simp
        (try simp only [Act.put, List.setIfInBounds_toArray, List.set_cons_zero, List.set_cons_succ])
        refine wpE_takeS (i := 6) (d := some 85) (v := .int .i64 oi) rfl rfl (by kernel_rfl) (by kernel_rfl) (by kernel_rfl) (by kernel_rfl) (fun _ _ _ h => h) (by rfl) ?hy5 hS0 trivial ?go5
        case hy5 =>
          intro w9 hT9
          have y0 : w9.cell? ⟨bo, oo + k, none⟩ = some (.int .i64 oi) := hT9; go_simp
        (try simp only [Act.put, List.setIfInBounds_toArray, List.set_cons_zero, List.set_cons_succ])
        refine wpE_all (rs := [0, 7, 10]) (by kernel_rfl) (by simp) ?_
        refine AllE.cons rfl (fun K hK => ?_) (AllE.cons rfl (fun K hK => ?_) (AllE.cons rfl (fun K hK => ?_) AllE.nil))
        · skip
          simp only [List.getElem_toArray, List.getElem_cons_zero]
          go_simp
          have h1 := HR0.out.own0
          refine hK.out _ _ ⟨fun _ => (HSL.out _ h1.x), trivial⟩ (fun _ => ?_)
          clear hK K
          have hS0 := (HSL.out _ h1.x)
          (try simp only [Act.put, List.setIfInBounds_toArray, List.set_cons_zero, List.set_cons_succ])
          obtain ⟨X6, hX1⟩ : ∃ x, X0.alloc (.cells #[] 3) = x := ⟨_, rfl⟩
          obtain ⟨z7, hz1⟩ : ∃ x, X0.heap.size = x := ⟨_, rfl⟩
          rw [hX1] at h1 hS0 ⊢
          rw [hz1] at h1 ⊢
          have HR8 := Lib.hid h1
          have hX2 := hX1
          clear h1 hX1
          clear hz1 hX2
          refine wpE_all (rs := [2, 7, 10]) (by kernel_rfl) (by simp) ?_
          refine AllE.cons rfl (fun K hK => ?_) (AllE.cons rfl (fun K hK => ?_) (AllE.cons rfl (fun K hK => ?_) AllE.nil))
          · skip
            simp only [List.getElem_toArray, List.getElem_cons_succ, List.getElem_cons_zero]
            obtain ⟨A11, n12, c13, X9, hrun, hn0, h1⟩ := HR8.out.app (HTXS.out _ HR8.out.x) HMT.out ct (by have := HMT8.out; have := HMT.out; simp only [List.length_nil]; omega)
            refine step_append_tm (s := .tmp 79) (x := .tmp 80) hrun rfl rfl rfl rfl rfl ?_
            refine hK.out _ _ ⟨fun _ => (HSL.out _ h1.x), trivial⟩ (fun _ => ?_)
            clear hK K
            have hS0 := (HSL.out _ h1.x)
            (try simp only [Act.put, List.setIfInBounds_toArray, List.set_cons_zero, List.set_cons_succ])
            have HR10 := Lib.hid h1
            have HN14 := Lib.hid hn0
            clear h1 hn0 hrun
            refine wpE_all (rs := [7, 10]) (by kernel_rfl) (by simp) ?_
            refine AllE.cons rfl (fun K hK => ?_) (AllE.cons rfl (fun K hK => ?_) AllE.nil)
            · skip
              simp only [List.getElem_toArray, List.getElem_cons_succ, List.getElem_cons_zero]
              go_simp
              have h1 := HR10.out.lay #[.int .i64 oi] 3
              refine hK.out _ _ ⟨fun _ => (HSL.out _ h1.x), trivial⟩ (fun _ => ?_)
              clear hK K
              have hS0 := (HSL.out _ h1.x)
              (try simp only [Act.put, List.setIfInBounds_toArray, List.set_cons_zero, List.set_cons_succ])
              obtain ⟨X15, hX1⟩ : ∃ x, X9.alloc (.cells #[.int .i64 oi] 3) = x := ⟨_, rfl⟩
              obtain ⟨z16, hz1⟩ : ∃ x, X9.heap.size = x := ⟨_, rfl⟩
              rw [hX1] at h1 hS0 ⊢
              rw [hz1] at h1 ⊢
              have HR17 := Lib.hid h1
              have hX2 := hX1
              clear h1 hX1
              clear hz1 hX2
              refine wpE_all (rs := [8, 10]) (by kernel_rfl) (by simp) ?_
              refine AllE.cons rfl (fun K hK => ?_) (AllE.cons rfl (fun K hK => ?_) AllE.nil)
              · skip
                simp only [List.getElem_toArray, List.getElem_cons_succ, List.getElem_cons_zero]
                obtain ⟨A20, n21, c22, X18, hrun, hn0, h1⟩ := HR17.out.app (ys := [oi]) (m := 1) (one_sl (HR17.out.k (z16, #[.int .i64 oi], 3) (by simp))) rfl 1 (by have := HMT8.out; have := HMT.out; simp only [List.nil_append, List.length_cons, List.length_nil]; omega)
                refine step_append_tm (s := .tmp 81) (x := .tmp 86) hrun rfl rfl rfl rfl rfl ?_
                refine hK.out _ _ ⟨fun _ => (HSL.out _ h1.x), trivial⟩ (fun _ => ?_)
                clear hK K
                have hS0 := (HSL.out _ h1.x)
                (try simp only [Act.put, List.setIfInBounds_toArray, List.set_cons_zero, List.set_cons_succ])
                have HR19 := Lib.hid h1
                have HN23 := Lib.hid hn0
                clear h1 hn0 hrun
                refine wpE_all (rs := [9, 10]) (by kernel_rfl) (by simp) ?_
                refine AllE.cons rfl (fun K hK => ?_) (AllE.cons rfl (fun K hK => ?_) AllE.nil)
                · skip
                  simp only [List.getElem_toArray, List.getElem_cons_succ, List.getElem_cons_zero]
                  go_simp
                  go_at_call 36
                  refine (HTG.out X18 A20 n21 c22 HN23.out (HR19.out.o _ _ rfl).1).mono ?_
                  rintro z9 X24 ⟨t, v9, rfl, hok, ⟨B1, m1, d1, B2, m2, d2, rfl, h71, h72, r71, r72⟩, hx9⟩
                  simp only []
                  have h1 := HR19.out.call hx9
                  refine hK.out _ _ ⟨fun _ => (HSL.out _ h1.x), trivial⟩ (fun _ => ?_)
                  clear hK K
                  have hS0 := (HSL.out _ h1.x)
                  (try simp only [Act.put, List.setIfInBounds_toArray, List.set_cons_zero, List.set_cons_succ])
                  have HR25 := Lib.hid h1
                  have HG26 := Lib.hid (show GtR X24 t B1 m1 d1 B2 m2 d2 from ⟨hok, h71, h72, Lay.row_mono r71 fun _ _ _ => trivial, Lay.row_mono r72 fun _ _ _ => trivial⟩)
                  clear h1 hok h71 h72 r71 r72 hx9
                  refine wpE_all (rs := [10]) (by kernel_rfl) (by simp) ?_
                  refine AllE.cons rfl (fun K hK => ?_) AllE.nil
                  simp only [List.getElem_toArray, List.getElem_cons_succ, List.getElem_cons_zero]
                  go_simp
                  have h1 := HR25.out.lay #[.slice none 0 0, .slice none 0 0] 53
                  refine hK.out _ _ ⟨fun _ => (HSL.out _ h1.x), trivial⟩ (fun _ => ?_)
                  clear hK K
                  have hS0 := (HSL.out _ h1.x)
                  (try simp only [Act.put, List.setIfInBounds_toArray, List.set_cons_zero, List.set_cons_succ])
                  obtain ⟨X27, hX1⟩ : ∃ x, X24.alloc (.cells #[.slice none 0 0, .slice none 0 0] 53) = x := ⟨_, rfl⟩
                  obtain ⟨z28, hz1⟩ : ∃ x, X24.heap.size = x := ⟨_, rfl⟩
                  rw [hX1] at h1 hS0 ⊢
                  rw [hz1] at h1 ⊢
                  have HR29 := Lib.hid h1
                  have hX2 := hX1
                  clear h1 hX1
                  have HG30 := Lib.hid (show GtU X27 z28 t B1 m1 d1 B2 m2 d2 by rw [← hz1, ← hX2]; exact HG26.out.lay _)
                  clear hz1 hX2
                  refine wpE_all (rs := [11]) (by kernel_rfl) (by simp) ?_
                  refine AllE.cons rfl (fun K hK => ?_) AllE.nil
                  simp only [List.getElem_toArray, List.getElem_cons_succ, List.getElem_cons_zero]
                  have hu := HR29.out.k (z28, #[.slice none 0 0, .slice none 0 0], 53) (by simp)
                  have zq0 := cell_of hu (i := 0) (u := .slice none 0 0) rfl
                  have zq1 := cell_of hu (i := 1) (u := .slice none 0 0) rfl
                  have zq2 := frozen_of hu 0
                  have zq3 := frozen_of hu 1
                  have HFN31 := Lib.hid (kw_fin HR29.out.x hu (HR29.out.b (z28, #[.slice none 0 0, .slice none 0 0], 53) (by simp)) HG30.out)
                  clear hu
                  go_simp
                  refine hK.out _ _ ⟨fun _ => HSL.out _ HFN31.out.2, trivial⟩ (fun _ => ?_)
                  clear hK K
                  (try simp only [Act.put, List.setIfInBounds_toArray, List.set_cons_zero, List.set_cons_succ])
                  refine wpE_done (by kernel_rfl) ?_ _
                  go_wp2_with fail
                  go_meet
                  case rel => exact HFN31.out.1
                · skip
                  simp only [List.getElem_toArray, List.getElem_cons_succ, List.getElem_cons_zero]
                  go_simp
                  have h1 := HR19.out.lay #[.slice none 0 0, .slice none 0 0] 53
                  refine hK.out _ _ ⟨fun _ => (HSL.out _ h1.x), trivial⟩ (fun _ => ?_)
                  clear hK K
                  have hS0 := (HSL.out _ h1.x)
                  (try simp only [Act.put, List.setIfInBounds_toArray, List.set_cons_zero, List.set_cons_succ])
                  obtain ⟨X32, hX1⟩ : ∃ x, X18.alloc (.cells #[.slice none 0 0, .slice none 0 0] 53) = x := ⟨_, rfl⟩
                  obtain ⟨z33, hz1⟩ : ∃ x, X18.heap.size = x := ⟨_, rfl⟩
                  rw [hX1] at h1 hS0 ⊢
                  rw [hz1] at h1 ⊢
                  have HR34 := Lib.hid h1
                  have hX2 := hX1
                  clear h1 hX1
                  clear hz1 hX2
                  refine wpE_all (rs := [9]) (by kernel_rfl) (by simp) ?_
                  refine AllE.cons rfl (fun K hK => ?_) AllE.nil
                  simp only [List.getElem_toArray, List.getElem_cons_succ, List.getElem_cons_zero]
                  go_simp
                  go_at_call 36
                  refine (HTG.out X32 A20 n21 c22 HN23.out (HR34.out.o _ _ rfl).1).mono ?_
                  rintro z9 X35 ⟨t, v9, rfl, hok, ⟨B1, m1, d1, B2, m2, d2, rfl, h71, h72, r71, r72⟩, hx9⟩
                  simp only []
                  have h1 := HR34.out.call hx9
                  refine hK.out _ _ ⟨fun _ => (HSL.out _ h1.x), trivial⟩ (fun _ => ?_)
                  clear hK K
                  have hS0 := (HSL.out _ h1.x)
                  (try simp only [Act.put, List.setIfInBounds_toArray, List.set_cons_zero, List.set_cons_succ])
                  have HR36 := Lib.hid h1
                  have hul := lt_of_block (HR34.out.k (z33, #[.slice none 0 0, .slice none 0 0], 53) (by simp))
                  have HG37 := Lib.hid (show GtU X35 z33 t B1 m1 d1 B2 m2 d2 from ⟨hok, h71, h72, Lay.row_mono r71 fun j hj _ => (by have hul2 : z33 < X32.heap.size := hul; omega), Lay.row_mono r72 fun j hj _ => (by have hul2 : z33 < X32.heap.size := hul; omega)⟩)
                  clear hul
                  clear h1 hok h71 h72 r71 r72 hx9
                  refine wpE_all (rs := [11]) (by kernel_rfl) (by simp) ?_
                  refine AllE.cons rfl (fun K hK => ?_) AllE.nil
                  simp only [List.getElem_toArray, List.getElem_cons_succ, List.getElem_cons_zero]
                  have hu := HR36.out.k (z33, #[.slice none 0 0, .slice none 0 0], 53) (by simp)
                  have zq0 := cell_of hu (i := 0) (u := .slice none 0 0) rfl
                  have zq1 := cell_of hu (i := 1) (u := .slice none 0 0) rfl
                  have zq2 := frozen_of hu 0
                  have zq3 := frozen_of hu 1
                  have HFN38 := Lib.hid (kw_fin HR36.out.x hu (HR36.out.b (z33, #[.slice none 0 0, .slice none 0 0], 53) (by simp)) HG37.out)
                  clear hu
                  go_simp
                  refine hK.out _ _ ⟨fun _ => HSL.out _ HFN38.out.2, trivial⟩ (fun _ => ?_)
                  clear hK K
                  (try simp only [Act.put, List.setIfInBounds_toArray, List.set_cons_zero, List.set_cons_succ])
                  refine wpE_done (by kernel_rfl) ?_ _
                  go_wp2_with fail
                  go_meet
                  case rel => exact HFN38.out.1
              · skip
                simp only [List.getElem_toArray, List.getElem_cons_succ, List.getElem_cons_zero]
                go_simp
                have h1 := HR17.out.lay #[.slice none 0 0, .slice none 0 0] 53
                refine hK.out _ _ ⟨fun _ => (HSL.out _ h1.x), trivial⟩ (fun _ => ?_)
                clear hK K
                have hS0 := (HSL.out _ h1.x)
                (try simp only [Act.put, List.setIfInBounds_toArray, List.set_cons_zero, List.set_cons_succ])
                obtain ⟨X39, hX1⟩ : ∃ x, X15.alloc (.cells #[.slice none 0 0, .slice none 0 0] 53) = x := ⟨_, rfl⟩
                obtain ⟨z40, hz1⟩ : ∃ x, X15.heap.size = x := ⟨_, rfl⟩
                rw [hX1] at h1 hS0 ⊢
                rw [hz1] at h1 ⊢
                have HR41 := Lib.hid h1
                have hX2 := hX1
                clear h1 hX1
                clear hz1 hX2
                refine wpE_all (rs := [8]) (by kernel_rfl) (by simp) ?_
                refine AllE.cons rfl (fun K hK => ?_) AllE.nil
                simp only [List.getElem_toArray, List.getElem_cons_succ, List.getElem_cons_zero]
                obtain ⟨A44, n45, c46, X42, hrun, hn0, h1⟩ := HR41.out.app (ys := [oi]) (m := 1) (one_sl (HR41.out.k (z16, #[.int .i64 oi], 3) (by simp))) rfl 1 (by have := HMT8.out; have := HMT.out; simp only [List.nil_append, List.length_cons, List.length_nil]; omega)
                refine step_append_tm (s := .tmp 81) (x := .tmp 86) hrun rfl rfl rfl rfl rfl ?_
                refine hK.out _ _ ⟨fun _ => (HSL.out _ h1.x), trivial⟩ (fun _ => ?_)
                clear hK K
                have hS0 := (HSL.out _ h1.x)
                (try simp only [Act.put, List.setIfInBounds_toArray, List.set_cons_zero, List.set_cons_succ])
                have HR43 := Lib.hid h1
                have HN47 := Lib.hid hn0
                clear h1 hn0 hrun
                refine wpE_all (rs := [9]) (by kernel_rfl) (by simp) ?_
                refine AllE.cons rfl (fun K hK => ?_) AllE.nil
                simp only [List.getElem_toArray, List.getElem_cons_succ, List.getElem_cons_zero]
                go_simp
                go_at_call 36
                refine (HTG.out X42 A44 n45 c46 HN47.out (HR43.out.o _ _ rfl).1).mono ?_
                rintro z9 X48 ⟨t, v9, rfl, hok, ⟨B1, m1, d1, B2, m2, d2, rfl, h71, h72, r71, r72⟩, hx9⟩
                simp only []
                have h1 := HR43.out.call hx9
                refine hK.out _ _ ⟨fun _ => (HSL.out _ h1.x), trivial⟩ (fun _ => ?_)
                clear hK K
                have hS0 := (HSL.out _ h1.x)
                (try simp only [Act.put, List.setIfInBounds_toArray, List.set_cons_zero, List.set_cons_succ])
                have HR49 := Lib.hid h1
                have hul := lt_of_block (HR43.out.k (z40, #[.slice none 0 0, .slice none 0 0], 53) (by simp))
                have HG50 := Lib.hid (show GtU X48 z40 t B1 m1 d1 B2 m2 d2 from ⟨hok, h71, h72, Lay.row_mono r71 fun j hj _ => (by have hul2 : z40 < X42.heap.size := hul; omega), Lay.row_mono r72 fun j hj _ => (by have hul2 : z40 < X42.heap.size := hul; omega)⟩)
                clear hul
                clear h1 hok h71 h72 r71 r72 hx9
                refine wpE_all (rs := [11]) (by kernel_rfl) (by simp) ?_
                refine AllE.cons rfl (fun K hK => ?_) AllE.nil
                simp only [List.getElem_toArray, List.getElem_cons_succ, List.getElem_cons_zero]
                have hu := HR49.out.k (z40, #[.slice none 0 0, .slice none 0 0], 53) (by simp)
                have zq0 := cell_of hu (i := 0) (u := .slice none 0 0) rfl
                have zq1 := cell_of hu (i := 1) (u := .slice none 0 0) rfl
                have zq2 := frozen_of hu 0
                have zq3 := frozen_of hu 1
                have HFN51 := Lib.hid (kw_fin HR49.out.x hu (HR49.out.b (z40, #[.slice none 0 0, .slice none 0 0], 53) (by simp)) HG50.out)
                clear hu
                go_simp
                refine hK.out _ _ ⟨fun _ => HSL.out _ HFN51.out.2, trivial⟩ (fun _ => ?_)
                clear hK K
                (try simp only [Act.put, List.setIfInBounds_toArray, List.set_cons_zero, List.set_cons_succ])
                refine wpE_done (by kernel_rfl) ?_ _
                go_wp2_with fail
                go_meet
                case rel => exact HFN51.out.1
            · skip
              simp only [List.getElem_toArray, List.getElem_cons_succ, List.getElem_cons_zero]
              go_simp
              have h1 := HR10.out.lay #[.slice none 0 0, .slice none 0 0] 53
              refine hK.out _ _ ⟨fun _ => (HSL.out _ h1.x), trivial⟩ (fun _ => ?_)
              clear hK K
              have hS0 := (HSL.out _ h1.x)
              (try simp only [Act.put, List.setIfInBounds_toArray, List.set_cons_zero, List.set_cons_succ])
              obtain ⟨X52, hX1⟩ : ∃ x, X9.alloc (.cells #[.slice none 0 0, .slice none 0 0] 53) = x := ⟨_, rfl⟩
              obtain ⟨z53, hz1⟩ : ∃ x, X9.heap.size = x := ⟨_, rfl⟩
              rw [hX1] at h1 hS0 ⊢
              rw [hz1] at h1 ⊢
              have HR54 := Lib.hid h1
              have hX2 := hX1
              clear h1 hX1
              clear hz1 hX2
              refine wpE_all (rs := [7]) (by kernel_rfl) (by simp) ?_
              refine AllE.cons rfl (fun K hK => ?_) AllE.nil
              simp only [List.getElem_toArray, List.getElem_cons_succ, List.getElem_cons_zero]
              go_simp
              have h1 := HR54.out.lay #[.int .i64 oi] 3
              refine hK.out _ _ ⟨fun _ => (HSL.out _ h1.x), trivial⟩ (fun _ => ?_)
              clear hK K
              have hS0 := (HSL.out _ h1.x)
              (try simp only [Act.put, List.setIfInBounds_toArray, List.set_cons_zero, List.set_cons_succ])
              obtain ⟨X55, hX1⟩ : ∃ x, X52.alloc (.cells #[.int .i64 oi] 3) = x := ⟨_, rfl⟩
              obtain ⟨z56, hz1⟩ : ∃ x, X52.heap.size = x := ⟨_, rfl⟩
              rw [hX1] at h1 hS0 ⊢
              rw [hz1] at h1 ⊢
              have HR57 := Lib.hid h1
              have hX2 := hX1
              clear h1 hX1
              clear hz1 hX2
              refine wpE_all (rs := [8]) (by kernel_rfl) (by simp) ?_
              refine AllE.cons rfl (fun K hK => ?_) AllE.nil
              simp only [List.getElem_toArray, List.getElem_cons_succ, List.getElem_cons_zero]
              obtain ⟨A60, n61, c62, X58, hrun, hn0, h1⟩ := HR57.out.app (ys := [oi]) (m := 1) (one_sl (HR57.out.k (z56, #[.int .i64 oi], 3) (by simp))) rfl 1 (by have := HMT8.out; have := HMT.out; simp only [List.nil_append, List.length_cons, List.length_nil]; omega)
              refine step_append_tm (s := .tmp 81) (x := .tmp 86) hrun rfl rfl rfl rfl rfl ?_
              refine hK.out _ _ ⟨fun _ => (HSL.out _ h1.x), trivial⟩ (fun _ => ?_)
              clear hK K
              have hS0 := (HSL.out _ h1.x)
              (try simp only [Act.put, List.setIfInBounds_toArray, List.set_cons_zero, List.set_cons_succ])
              have HR59 := Lib.hid h1
              have HN63 := Lib.hid hn0
              clear h1 hn0 hrun
              refine wpE_all (rs := [9]) (by kernel_rfl) (by simp) ?_
              refine AllE.cons rfl (fun K hK => ?_) AllE.nil
              simp only [List.getElem_toArray, List.getElem_cons_succ, List.getElem_cons_zero]
              go_simp
              go_at_call 36
              refine (HTG.out X58 A60 n61 c62 HN63.out (HR59.out.o _ _ rfl).1).mono ?_
              rintro z9 X64 ⟨t, v9, rfl, hok, ⟨B1, m1, d1, B2, m2, d2, rfl, h71, h72, r71, r72⟩, hx9⟩
              simp only []
              have h1 := HR59.out.call hx9
              refine hK.out _ _ ⟨fun _ => (HSL.out _ h1.x), trivial⟩ (fun _ => ?_)
              clear hK K
              have hS0 := (HSL.out _ h1.x)
              (try simp only [Act.put, List.setIfInBounds_toArray, List.set_cons_zero, List.set_cons_succ])
              have HR65 := Lib.hid h1
              have hul := lt_of_block (HR59.out.k (z53, #[.slice none 0 0, .slice none 0 0], 53) (by simp))
              have HG66 := Lib.hid (show GtU X64 z53 t B1 m1 d1 B2 m2 d2 from ⟨hok, h71, h72, Lay.row_mono r71 fun j hj _ => (by have hul2 : z53 < X58.heap.size := hul; omega), Lay.row_mono r72 fun j hj _ => (by have hul2 : z53 < X58.heap.size := hul; omega)⟩)
              clear hul
              clear h1 hok h71 h72 r71 r72 hx9
              refine wpE_all (rs := [11]) (by kernel_rfl) (by simp) ?_
              refine AllE.cons rfl (fun K hK => ?_) AllE.nil
              simp only [List.getElem_toArray, List.getElem_cons_succ, List.getElem_cons_zero]
              have hu := HR65.out.k (z53, #[.slice none 0 0, .slice none 0 0], 53) (by simp)
              have zq0 := cell_of hu (i := 0) (u := .slice none 0 0) rfl
              have zq1 := cell_of hu (i := 1) (u := .slice none 0 0) rfl
              have zq2 := frozen_of hu 0
              have zq3 := frozen_of hu 1
              have HFN67 := Lib.hid (kw_fin HR65.out.x hu (HR65.out.b (z53, #[.slice none 0 0, .slice none 0 0], 53) (by simp)) HG66.out)
              clear hu
              go_simp
              refine hK.out _ _ ⟨fun _ => HSL.out _ HFN67.out.2, trivial⟩ (fun _ => ?_)
              clear hK K
              (try simp only [Act.put, List.setIfInBounds_toArray, List.set_cons_zero, List.set_cons_succ])
              refine wpE_done (by kernel_rfl) ?_ _
              go_wp2_with fail
              go_meet
              case rel => exact HFN67.out.1
          · skip
            simp only [List.getElem_toArray, List.getElem_cons_succ, List.getElem_cons_zero]
            go_simp
            have h1 := HR8.out.lay #[.int .i64 oi] 3
            refine hK.out _ _ ⟨fun _ => (HSL.out _ h1.x), trivial⟩ (fun _ => ?_)
            clear hK K
            have hS0 := (HSL.out _ h1.x)
            (try simp only [Act.put, List.setIfInBounds_toArray, List.set_cons_zero, List.set_cons_succ])
            obtain ⟨X68, hX1⟩ : ∃ x, X6.alloc (.cells #[.int .i64 oi] 3) = x := ⟨_, rfl⟩
            obtain ⟨z69, hz1⟩ : ∃ x, X6.heap.size = x := ⟨_, rfl⟩
            rw [hX1] at h1 hS0 ⊢
            rw [hz1] at h1 ⊢
            have HR70 := Lib.hid h1
            have hX2 := hX1
            clear h1 hX1
            clear hz1 hX2
            refine wpE_all (rs := [2, 10]) (by kernel_rfl) (by simp) ?_
            refine AllE.cons rfl (fun K hK => ?_) (AllE.cons rfl (fun K hK => ?_) AllE.nil)
            · skip
              simp only [List.getElem_toArray, List.getElem_cons_succ, List.getElem_cons_zero]
              obtain ⟨A73, n74, c75, X71, hrun, hn0, h1⟩ := HR70.out.app (HTXS.out _ HR70.out.x) HMT.out ct (by have := HMT8.out; have := HMT.out; simp only [List.length_nil]; omega)
              refine step_append_tm (s := .tmp 79) (x := .tmp 80) hrun rfl rfl rfl rfl rfl ?_
              refine hK.out _ _ ⟨fun _ => (HSL.out _ h1.x), trivial⟩ (fun _ => ?_)
              clear hK K
              have hS0 := (HSL.out _ h1.x)
              (try simp only [Act.put, List.setIfInBounds_toArray, List.set_cons_zero, List.set_cons_succ])
              have HR72 := Lib.hid h1
              have HN76 := Lib.hid hn0
              clear h1 hn0 hrun
              refine wpE_all (rs := [8, 10]) (by kernel_rfl) (by simp) ?_
              refine AllE.cons rfl (fun K hK => ?_) (AllE.cons rfl (fun K hK => ?_) AllE.nil)
              · skip
                simp only [List.getElem_toArray, List.getElem_cons_succ, List.getElem_cons_zero]
                obtain ⟨A79, n80, c81, X77, hrun, hn0, h1⟩ := HR72.out.app (ys := [oi]) (m := 1) (one_sl (HR72.out.k (z69, #[.int .i64 oi], 3) (by simp))) rfl 1 (by have := HMT8.out; have := HMT.out; simp only [List.nil_append, List.length_cons, List.length_nil]; omega)
                refine step_append_tm (s := .tmp 81) (x := .tmp 86) hrun rfl rfl rfl rfl rfl ?_
                refine hK.out _ _ ⟨fun _ => (HSL.out _ h1.x), trivial⟩ (fun _ => ?_)
                clear hK K
                have hS0 := (HSL.out _ h1.x)
                (try simp only [Act.put, List.setIfInBounds_toArray, List.set_cons_zero, List.set_cons_succ])
                have HR78 := Lib.hid h1
                have HN82 := Lib.hid hn0
                clear h1 hn0 hrun
                refine wpE_all (rs := [9, 10]) (by kernel_rfl) (by simp) ?_
                refine AllE.cons rfl (fun K hK => ?_) (AllE.cons rfl (fun K hK => ?_) AllE.nil)
                · skip
                  simp only [List.getElem_toArray, List.getElem_cons_succ, List.getElem_cons_zero]
                  go_simp
                  go_at_call 36
                  refine (HTG.out X77 A79 n80 c81 HN82.out (HR78.out.o _ _ rfl).1).mono ?_
                  rintro z9 X83 ⟨t, v9, rfl, hok, ⟨B1, m1, d1, B2, m2, d2, rfl, h71, h72, r71, r72⟩, hx9⟩
                  simp only []
                  have h1 := HR78.out.call hx9
                  refine hK.out _ _ ⟨fun _ => (HSL.out _ h1.x), trivial⟩ (fun _ => ?_)
                  clear hK K
                  have hS0 := (HSL.out _ h1.x)
                  (try simp only [Act.put, List.setIfInBounds_toArray, List.set_cons_zero, List.set_cons_succ])
                  have HR84 := Lib.hid h1
                  have HG85 := Lib.hid (show GtR X83 t B1 m1 d1 B2 m2 d2 from ⟨hok, h71, h72, Lay.row_mono r71 fun _ _ _ => trivial, Lay.row_mono r72 fun _ _ _ => trivial⟩)
                  clear h1 hok h71 h72 r71 r72 hx9
                  refine wpE_all (rs := [10]) (by kernel_rfl) (by simp) ?_
                  refine AllE.cons rfl (fun K hK => ?_) AllE.nil
                  simp only [List.getElem_toArray, List.getElem_cons_succ, List.getElem_cons_zero]
                  go_simp
                  have h1 := HR84.out.lay #[.slice none 0 0, .slice none 0 0] 53
                  refine hK.out _ _ ⟨fun _ => (HSL.out _ h1.x), trivial⟩ (fun _ => ?_)
                  clear hK K
                  have hS0 := (HSL.out _ h1.x)
                  (try simp only [Act.put, List.setIfInBounds_toArray, List.set_cons_zero, List.set_cons_succ])
                  obtain ⟨X86, hX1⟩ : ∃ x, X83.alloc (.cells #[.slice none 0 0, .slice none 0 0] 53) = x := ⟨_, rfl⟩
                  obtain ⟨z87, hz1⟩ : ∃ x, X83.heap.size = x := ⟨_, rfl⟩
                  rw [hX1] at h1 hS0 ⊢
                  rw [hz1] at h1 ⊢
                  have HR88 := Lib.hid h1
                  have hX2 := hX1
                  clear h1 hX1
                  have HG89 := Lib.hid (show GtU X86 z87 t B1 m1 d1 B2 m2 d2 by rw [← hz1, ← hX2]; exact HG85.out.lay _)
                  clear hz1 hX2
                  refine wpE_all (rs := [11]) (by kernel_rfl) (by simp) ?_
                  refine AllE.cons rfl (fun K hK => ?_) AllE.nil
                  simp only [List.getElem_toArray, List.getElem_cons_succ, List.getElem_cons_zero]
                  have hu := HR88.out.k (z87, #[.slice none 0 0, .slice none 0 0], 53) (by simp)
                  have zq0 := cell_of hu (i := 0) (u := .slice none 0 0) rfl
                  have zq1 := cell_of hu (i := 1) (u := .slice none 0 0) rfl
                  have zq2 := frozen_of hu 0
                  have zq3 := frozen_of hu 1
                  have HFN90 := Lib.hid (kw_fin HR88.out.x hu (HR88.out.b (z87, #[.slice none 0 0, .slice none 0 0], 53) (by simp)) HG89.out)
                  clear hu
                  go_simp
                  refine hK.out _ _ ⟨fun _ => HSL.out _ HFN90.out.2, trivial⟩ (fun _ => ?_)
                  clear hK K
                  (try simp only [Act.put, List.setIfInBounds_toArray, List.set_cons_zero, List.set_cons_succ])
                  refine wpE_done (by kernel_rfl) ?_ _
                  go_wp2_with fail
                  go_meet
                  case rel => exact HFN90.out.1
                · skip
                  simp only [List.getElem_toArray, List.getElem_cons_succ, List.getElem_cons_zero]
                  go_simp
                  have h1 := HR78.out.lay #[.slice none 0 0, .slice none 0 0] 53
                  refine hK.out _ _ ⟨fun _ => (HSL.out _ h1.x), trivial⟩ (fun _ => ?_)
                  clear hK K
                  have hS0 := (HSL.out _ h1.x)
                  (try simp only [Act.put, List.setIfInBounds_toArray, List.set_cons_zero, List.set_cons_succ])
                  obtain ⟨X91, hX1⟩ : ∃ x, X77.alloc (.cells #[.slice none 0 0, .slice none 0 0] 53) = x := ⟨_, rfl⟩
                  obtain ⟨z92, hz1⟩ : ∃ x, X77.heap.size = x := ⟨_, rfl⟩
                  rw [hX1] at h1 hS0 ⊢
                  rw [hz1] at h1 ⊢
                  have HR93 := Lib.hid h1
                  have hX2 := hX1
                  clear h1 hX1
                  clear hz1 hX2
                  refine wpE_all (rs := [9]) (by kernel_rfl) (by simp) ?_
                  refine AllE.cons rfl (fun K hK => ?_) AllE.nil
                  simp only [List.getElem_toArray, List.getElem_cons_succ, List.getElem_cons_zero]
                  go_simp
                  go_at_call 36
                  refine (HTG.out X91 A79 n80 c81 HN82.out (HR93.out.o _ _ rfl).1).mono ?_
                  rintro z9 X94 ⟨t, v9, rfl, hok, ⟨B1, m1, d1, B2, m2, d2, rfl, h71, h72, r71, r72⟩, hx9⟩
                  simp only []
                  have h1 := HR93.out.call hx9
                  refine hK.out _ _ ⟨fun _ => (HSL.out _ h1.x), trivial⟩ (fun _ => ?_)
                  clear hK K
                  have hS0 := (HSL.out _ h1.x)
                  (try simp only [Act.put, List.setIfInBounds_toArray, List.set_cons_zero, List.set_cons_succ])
                  have HR95 := Lib.hid h1
                  have hul := lt_of_block (HR93.out.k (z92, #[.slice none 0 0, .slice none 0 0], 53) (by simp))
                  have HG96 := Lib.hid (show GtU X94 z92 t B1 m1 d1 B2 m2 d2 from ⟨hok, h71, h72, Lay.row_mono r71 fun j hj _ => (by have hul2 : z92 < X91.heap.size := hul; omega), Lay.row_mono r72 fun j hj _ => (by have hul2 : z92 < X91.heap.size := hul; omega)⟩)
                  clear hul
                  clear h1 hok h71 h72 r71 r72 hx9
                  refine wpE_all (rs := [11]) (by kernel_rfl) (by simp) ?_
                  refine AllE.cons rfl (fun K hK => ?_) AllE.nil
                  simp only [List.getElem_toArray, List.getElem_cons_succ, List.getElem_cons_zero]
                  have hu := HR95.out.k (z92, #[.slice none 0 0, .slice none 0 0], 53) (by simp)
                  have zq0 := cell_of hu (i := 0) (u := .slice none 0 0) rfl
                  have zq1 := cell_of hu (i := 1) (u := .slice none 0 0) rfl
                  have zq2 := frozen_of hu 0
                  have zq3 := frozen_of hu 1
                  have HFN97 := Lib.hid (kw_fin HR95.out.x hu (HR95.out.b (z92, #[.slice none 0 0, .slice none 0 0], 53) (by simp)) HG96.out)
                  clear hu
                  go_simp
                  refine hK.out _ _ ⟨fun _ => HSL.out _ HFN97.out.2, trivial⟩ (fun _ => ?_)
                  clear hK K
                  (try simp only [Act.put, List.setIfInBounds_toArray, List.set_cons_zero, List.set_cons_succ])
                  refine wpE_done (by kernel_rfl) ?_ _
                  go_wp2_with fail
                  go_meet
                  case rel => exact HFN97.out.1
              · skip
                simp only [List.getElem_toArray, List.getElem_cons_succ, List.getElem_cons_zero]
                go_simp
                have h1 := HR72.out.lay #[.slice none 0 0, .slice none 0 0] 53
                refine hK.out _ _ ⟨fun _ => (HSL.out _ h1.x), trivial⟩ (fun _ => ?_)
                clear hK K
                have hS0 := (HSL.out _ h1.x)
                (try simp only [Act.put, List.setIfInBounds_toArray, List.set_cons_zero, List.set_cons_succ])
                obtain ⟨X98, hX1⟩ : ∃ x, X71.alloc (.cells #[.slice none 0 0, .slice none 0 0] 53) = x := ⟨_, rfl⟩
                obtain ⟨z99, hz1⟩ : ∃ x, X71.heap.size = x := ⟨_, rfl⟩
                rw [hX1] at h1 hS0 ⊢
                rw [hz1] at h1 ⊢
                have HR100 := Lib.hid h1
                have hX2 := hX1
                clear h1 hX1
                clear hz1 hX2
                refine wpE_all (rs := [8]) (by kernel_rfl) (by simp) ?_
                refine AllE.cons rfl (fun K hK => ?_) AllE.nil
                simp only [List.getElem_toArray, List.getElem_cons_succ, List.getElem_cons_zero]
                obtain ⟨A103, n104, c105, X101, hrun, hn0, h1⟩ := HR100.out.app (ys := [oi]) (m := 1) (one_sl (HR100.out.k (z69, #[.int .i64 oi], 3) (by simp))) rfl 1 (by have := HMT8.out; have := HMT.out; simp only [List.nil_append, List.length_cons, List.length_nil]; omega)
                refine step_append_tm (s := .tmp 81) (x := .tmp 86) hrun rfl rfl rfl rfl rfl ?_
                refine hK.out _ _ ⟨fun _ => (HSL.out _ h1.x), trivial⟩ (fun _ => ?_)
                clear hK K
                have hS0 := (HSL.out _ h1.x)
                (try simp only [Act.put, List.setIfInBounds_toArray, List.set_cons_zero, List.set_cons_succ])
                have HR102 := Lib.hid h1
                have HN106 := Lib.hid hn0
                clear h1 hn0 hrun
                refine wpE_all (rs := [9]) (by kernel_rfl) (by simp) ?_
                refine AllE.cons rfl (fun K hK => ?_) AllE.nil
                simp only [List.getElem_toArray, List.getElem_cons_succ, List.getElem_cons_zero]
                go_simp
                go_at_call 36
                refine (HTG.out X101 A103 n104 c105 HN106.out (HR102.out.o _ _ rfl).1).mono ?_
                rintro z9 X107 ⟨t, v9, rfl, hok, ⟨B1, m1, d1, B2, m2, d2, rfl, h71, h72, r71, r72⟩, hx9⟩
                simp only []
                have h1 := HR102.out.call hx9
                refine hK.out _ _ ⟨fun _ => (HSL.out _ h1.x), trivial⟩ (fun _ => ?_)
                clear hK K
                have hS0 := (HSL.out _ h1.x)
                (try simp only [Act.put, List.setIfInBounds_toArray, List.set_cons_zero, List.set_cons_succ])
                have HR108 := Lib.hid h1
                have hul := lt_of_block (HR102.out.k (z99, #[.slice none 0 0, .slice none 0 0], 53) (by simp))
                have HG109 := Lib.hid (show GtU X107 z99 t B1 m1 d1 B2 m2 d2 from ⟨hok, h71, h72, Lay.row_mono r71 fun j hj _ => (by have hul2 : z99 < X101.heap.size := hul; omega), Lay.row_mono r72 fun j hj _ => (by have hul2 : z99 < X101.heap.size := hul; omega)⟩)
                clear hul
                clear h1 hok h71 h72 r71 r72 hx9
                refine wpE_all (rs := [11]) (by kernel_rfl) (by simp) ?_
                refine AllE.cons rfl (fun K hK => ?_) AllE.nil
                simp only [List.getElem_toArray, List.getElem_cons_succ, List.getElem_cons_zero]
                have hu := HR108.out.k (z99, #[.slice none 0 0, .slice none 0 0], 53) (by simp)
                have zq0 := cell_of hu (i := 0) (u := .slice none 0 0) rfl
                have zq1 := cell_of hu (i := 1) (u := .slice none 0 0) rfl
                have zq2 := frozen_of hu 0
                have zq3 := frozen_of hu 1
                have HFN110 := Lib.hid (kw_fin HR108.out.x hu (HR108.out.b (z99, #[.slice none 0 0, .slice none 0 0], 53) (by simp)) HG109.out)
                clear hu
                go_simp
                refine hK.out _ _ ⟨fun _ => HSL.out _ HFN110.out.2, trivial⟩ (fun _ => ?_)
                clear hK K
                (try simp only [Act.put, List.setIfInBounds_toArray, List.set_cons_zero, List.set_cons_succ])
                refine wpE_done (by kernel_rfl) ?_ _
                go_wp2_with fail
                go_meet
                case rel => exact HFN110.out.1
            · skip
              simp only [List.getElem_toArray, List.getElem_cons_succ, List.getElem_cons_zero]
              go_simp
              have h1 := HR70.out.lay #[.slice none 0 0, .slice none 0 0] 53
              refine hK.out _ _ ⟨fun _ => (HSL.out _ h1.x), trivial⟩ (fun _ => ?_)
              clear hK K
              have hS0 := (HSL.out _ h1.x)
              (try simp only [Act.put, List.setIfInBounds_toArray, List.set_cons_zero, List.set_cons_succ])
              obtain ⟨X111, hX1⟩ : ∃ x, X68.alloc (.cells #[.slice none 0 0, .slice none 0 0] 53) = x := ⟨_, rfl⟩
              obtain ⟨z112, hz1⟩ : ∃ x, X68.heap.size = x := ⟨_, rfl⟩
              rw [hX1] at h1 hS0 ⊢
              rw [hz1] at h1 ⊢
              have HR113 := Lib.hid h1
              have hX2 := hX1
              clear h1 hX1
              clear hz1 hX2
              refine wpE_all (rs := [2]) (by kernel_rfl) (by simp) ?_
              refine AllE.cons rfl (fun K hK => ?_) AllE.nil
              simp only [List.getElem_toArray, List.getElem_cons_succ, List.getElem_cons_zero]
              obtain ⟨A116, n117, c118, X114, hrun, hn0, h1⟩ := HR113.out.app (HTXS.out _ HR113.out.x) HMT.out ct (by have := HMT8.out; have := HMT.out; simp only [List.length_nil]; omega)
              refine step_append_tm (s := .tmp 79) (x := .tmp 80) hrun rfl rfl rfl rfl rfl ?_
              refine hK.out _ _ ⟨fun _ => (HSL.out _ h1.x), trivial⟩ (fun _ => ?_)
              clear hK K
              have hS0 := (HSL.out _ h1.x)
              (try simp only [Act.put, List.setIfInBounds_toArray, List.set_cons_zero, List.set_cons_succ])
              have HR115 := Lib.hid h1
              have HN119 := Lib.hid hn0
              clear h1 hn0 hrun
              refine wpE_all (rs := [8]) (by kernel_rfl) (by simp) ?_
              refine AllE.cons rfl (fun K hK => ?_) AllE.nil
              simp only [List.getElem_toArray, List.getElem_cons_succ, List.getElem_cons_zero]
              obtain ⟨A122, n123, c124, X120, hrun, hn0, h1⟩ := HR115.out.app (ys := [oi]) (m := 1) (one_sl (HR115.out.k (z69, #[.int .i64 oi], 3) (by simp))) rfl 1 (by have := HMT8.out; have := HMT.out; simp only [List.nil_append, List.length_cons, List.length_nil]; omega)
              refine step_append_tm (s := .tmp 81) (x := .tmp 86) hrun rfl rfl rfl rfl rfl ?_
              refine hK.out _ _ ⟨fun _ => (HSL.out _ h1.x), trivial⟩ (fun _ => ?_)
              clear hK K
              have hS0 := (HSL.out _ h1.x)
              (try simp only [Act.put, List.setIfInBounds_toArray, List.set_cons_zero, List.set_cons_succ])
              have HR121 := Lib.hid h1
              have HN125 := Lib.hid hn0
              clear h1 hn0 hrun
              refine wpE_all (rs := [9]) (by kernel_rfl) (by simp) ?_
              refine AllE.cons rfl (fun K hK => ?_) AllE.nil
              simp only [List.getElem_toArray, List.getElem_cons_succ, List.getElem_cons_zero]
              go_simp
              go_at_call 36
              refine (HTG.out X120 A122 n123 c124 HN125.out (HR121.out.o _ _ rfl).1).mono ?_
              rintro z9 X126 ⟨t, v9, rfl, hok, ⟨B1, m1, d1, B2, m2, d2, rfl, h71, h72, r71, r72⟩, hx9⟩
              simp only []
              have h1 := HR121.out.call hx9
              refine hK.out _ _ ⟨fun _ => (HSL.out _ h1.x), trivial⟩ (fun _ => ?_)
              clear hK K
              have hS0 := (HSL.out _ h1.x)
              (try simp only [Act.put, List.setIfInBounds_toArray, List.set_cons_zero, List.set_cons_succ])
              have HR127 := Lib.hid h1
              have hul := lt_of_block (HR121.out.k (z112, #[.slice none 0 0, .slice none 0 0], 53) (by simp))
              have HG128 := Lib.hid (show GtU X126 z112 t B1 m1 d1 B2 m2 d2 from ⟨hok, h71, h72, Lay.row_mono r71 fun j hj _ => (by have hul2 : z112 < X120.heap.size := hul; omega), Lay.row_mono r72 fun j hj _ => (by have hul2 : z112 < X120.heap.size := hul; omega)⟩)
              clear hul
              clear h1 hok h71 h72 r71 r72 hx9
              refine wpE_all (rs := [11]) (by kernel_rfl) (by simp) ?_
              refine AllE.cons rfl (fun K hK => ?_) AllE.nil
              simp only [List.getElem_toArray, List.getElem_cons_succ, List.getElem_cons_zero]
              have hu := HR127.out.k (z112, #[.slice none 0 0, .slice none 0 0], 53) (by simp)
              have zq0 := cell_of hu (i := 0) (u := .slice none 0 0) rfl
              have zq1 := cell_of hu (i := 1) (u := .slice none 0 0) rfl
              have zq2 := frozen_of hu 0
              have zq3 := frozen_of hu 1
              have HFN129 := Lib.hid (kw_fin HR127.out.x hu (HR127.out.b (z112, #[.slice none 0 0, .slice none 0 0], 53) (by simp)) HG128.out)
              clear hu
              go_simp
              refine hK.out _ _ ⟨fun _ => HSL.out _ HFN129.out.2, trivial⟩ (fun _ => ?_)
              clear hK K
              (try simp only [Act.put, List.setIfInBounds_toArray, List.set_cons_zero, List.set_cons_succ])
              refine wpE_done (by kernel_rfl) ?_ _
              go_wp2_with fail
              go_meet
              case rel => exact HFN129.out.1
          · skip
            simp only [List.getElem_toArray, List.getElem_cons_succ, List.getElem_cons_zero]
            go_simp
            have h1 := HR8.out.lay #[.slice none 0 0, .slice none 0 0] 53
            refine hK.out _ _ ⟨fun _ => (HSL.out _ h1.x), trivial⟩ (fun _ => ?_)
            clear hK K
            have hS0 := (HSL.out _ h1.x)
            (try simp only [Act.put, List.setIfInBounds_toArray, List.set_cons_zero, List.set_cons_succ])
            obtain ⟨X130, hX1⟩ : ∃ x, X6.alloc (.cells #[.slice none 0 0, .slice none 0 0] 53) = x := ⟨_, rfl⟩
            obtain ⟨z131, hz1⟩ : ∃ x, X6.heap.size = x := ⟨_, rfl⟩
            rw [hX1] at h1 hS0 ⊢
            rw [hz1] at h1 ⊢
            have HR132 := Lib.hid h1
            have hX2 := hX1
            clear h1 hX1
            clear hz1 hX2
            refine wpE_all (rs := [2, 7]) (by kernel_rfl) (by simp) ?_
            refine AllE.cons rfl (fun K hK => ?_) (AllE.cons rfl (fun K hK => ?_) AllE.nil)
            · skip
              simp only [List.getElem_toArray, List.getElem_cons_succ, List.getElem_cons_zero]
              obtain ⟨A135, n136, c137, X133, hrun, hn0, h1⟩ := HR132.out.app (HTXS.out _ HR132.out.x) HMT.out ct (by have := HMT8.out; have := HMT.out; simp only [List.length_nil]; omega)
              refine step_append_tm (s := .tmp 79) (x := .tmp 80) hrun rfl rfl rfl rfl rfl ?_
              refine hK.out _ _ ⟨fun _ => (HSL.out _ h1.x), trivial⟩ (fun _ => ?_)
              clear hK K
              have hS0 := (HSL.out _ h1.x)
              (try simp only [Act.put, List.setIfInBounds_toArray, List.set_cons_zero, List.set_cons_succ])
              have HR134 := Lib.hid h1
              have HN138 := Lib.hid hn0
              clear h1 hn0 hrun
              refine wpE_all (rs := [7]) (by kernel_rfl) (by simp) ?_
              refine AllE.cons rfl (fun K hK => ?_) AllE.nil
              simp only [List.getElem_toArray, List.getElem_cons_succ, List.getElem_cons_zero]
              go_simp
              have h1 := HR134.out.lay #[.int .i64 oi] 3
              refine hK.out _ _ ⟨fun _ => (HSL.out _ h1.x), trivial⟩ (fun _ => ?_)
              clear hK K
              have hS0 := (HSL.out _ h1.x)
              (try simp only [Act.put, List.setIfInBounds_toArray, List.set_cons_zero, List.set_cons_succ])
              obtain ⟨X139, hX1⟩ : ∃ x, X133.alloc (.cells #[.int .i64 oi] 3) = x := ⟨_, rfl⟩
              obtain ⟨z140, hz1⟩ : ∃ x, X133.heap.size = x := ⟨_, rfl⟩
              rw [hX1] at h1 hS0 ⊢
              rw [hz1] at h1 ⊢
              have HR141 := Lib.hid h1
              have hX2 := hX1
              clear h1 hX1
              clear hz1 hX2
              refine wpE_all (rs := [8]) (by kernel_rfl) (by simp) ?_
              refine AllE.cons rfl (fun K hK => ?_) AllE.nil
              simp only [List.getElem_toArray, List.getElem_cons_succ, List.getElem_cons_zero]
              obtain ⟨A144, n145, c146, X142, hrun, hn0, h1⟩ := HR141.out.app (ys := [oi]) (m := 1) (one_sl (HR141.out.k (z140, #[.int .i64 oi], 3) (by simp))) rfl 1 (by have := HMT8.out; have := HMT.out; simp only [List.nil_append, List.length_cons, List.length_nil]; omega)
              refine step_append_tm (s := .tmp 81) (x := .tmp 86) hrun rfl rfl rfl rfl rfl ?_
              refine hK.out _ _ ⟨fun _ => (HSL.out _ h1.x), trivial⟩ (fun _ => ?_)
              clear hK K
              have hS0 := (HSL.out _ h1.x)
              (try simp only [Act.put, List.setIfInBounds_toArray, List.set_cons_zero, List.set_cons_succ])
              have HR143 := Lib.hid h1
              have HN147 := Lib.hid hn0
              clear h1 hn0 hrun
              refine wpE_all (rs := [9]) (by kernel_rfl) (by simp) ?_
              refine AllE.cons rfl (fun K hK => ?_) AllE.nil
              simp only [List.getElem_toArray, List.getElem_cons_succ, List.getElem_cons_zero]
              go_simp
              go_at_call 36
              refine (HTG.out X142 A144 n145 c146 HN147.out (HR143.out.o _ _ rfl).1).mono ?_
              rintro z9 X148 ⟨t, v9, rfl, hok, ⟨B1, m1, d1, B2, m2, d2, rfl, h71, h72, r71, r72⟩, hx9⟩
              simp only []
              have h1 := HR143.out.call hx9
              refine hK.out _ _ ⟨fun _ => (HSL.out _ h1.x), trivial⟩ (fun _ => ?_)
              clear hK K
              have hS0 := (HSL.out _ h1.x)
              (try simp only [Act.put, List.setIfInBounds_toArray, List.set_cons_zero, List.set_cons_succ])
              have HR149 := Lib.hid h1
              have hul := lt_of_block (HR143.out.k (z131, #[.slice none 0 0, .slice none 0 0], 53) (by simp))
              have HG150 := Lib.hid (show GtU X148 z131 t B1 m1 d1 B2 m2 d2 from ⟨hok, h71, h72, Lay.row_mono r71 fun j hj _ => (by have hul2 : z131 < X142.heap.size := hul; omega), Lay.row_mono r72 fun j hj _ => (by have hul2 : z131 < X142.heap.size := hul; omega)⟩)
              clear hul
              clear h1 hok h71 h72 r71 r72 hx9
              refine wpE_all (rs := [11]) (by kernel_rfl) (by simp) ?_
              refine AllE.cons rfl (fun K hK => ?_) AllE.nil
              simp only [List.getElem_toArray, List.getElem_cons_succ, List.getElem_cons_zero]
              have hu := HR149.out.k (z131, #[.slice none 0 0, .slice none 0 0], 53) (by simp)
              have zq0 := cell_of hu (i := 0) (u := .slice none 0 0) rfl
              have zq1 := cell_of hu (i := 1) (u := .slice none 0 0) rfl
              have zq2 := frozen_of hu 0
              have zq3 := frozen_of hu 1
              have HFN151 := Lib.hid (kw_fin HR149.out.x hu (HR149.out.b (z131, #[.slice none 0 0, .slice none 0 0], 53) (by simp)) HG150.out)
              clear hu
              go_simp
              refine hK.out _ _ ⟨fun _ => HSL.out _ HFN151.out.2, trivial⟩ (fun _ => ?_)
              clear hK K
              (try simp only [Act.put, List.setIfInBounds_toArray, List.set_cons_zero, List.set_cons_succ])
              refine wpE_done (by kernel_rfl) ?_ _
              go_wp2_with fail
              go_meet
              case rel => exact HFN151.out.1
            · skip
              simp only [List.getElem_toArray, List.getElem_cons_succ, List.getElem_cons_zero]
              go_simp
              have h1 := HR132.out.lay #[.int .i64 oi] 3
              refine hK.out _ _ ⟨fun _ => (HSL.out _ h1.x), trivial⟩ (fun _ => ?_)
              clear hK K
              have hS0 := (HSL.out _ h1.x)
              (try simp only [Act.put, List.setIfInBounds_toArray, List.set_cons_zero, List.set_cons_succ])
              obtain ⟨X152, hX1⟩ : ∃ x, X130.alloc (.cells #[.int .i64 oi] 3) = x := ⟨_, rfl⟩
              obtain ⟨z153, hz1⟩ : ∃ x, X130.heap.size = x := ⟨_, rfl⟩
              rw [hX1] at h1 hS0 ⊢
              rw [hz1] at h1 ⊢
              have HR154 := Lib.hid h1
              have hX2 := hX1
              clear h1 hX1
              clear hz1 hX2
              refine wpE_all (rs := [2]) (by kernel_rfl) (by simp) ?_
              refine AllE.cons rfl (fun K hK => ?_) AllE.nil
              simp only [List.getElem_toArray, List.getElem_cons_succ, List.getElem_cons_zero]
              obtain ⟨A157, n158, c159, X155, hrun, hn0, h1⟩ := HR154.out.app (HTXS.out _ HR154.out.x) HMT.out ct (by have := HMT8.out; have := HMT.out; simp only [List.length_nil]; omega)
              refine step_append_tm (s := .tmp 79) (x := .tmp 80) hrun rfl rfl rfl rfl rfl ?_
              refine hK.out _ _ ⟨fun _ => (HSL.out _ h1.x), trivial⟩ (fun _ => ?_)
              clear hK K
              have hS0 := (HSL.out _ h1.x)
              (try simp only [Act.put, List.setIfInBounds_toArray, List.set_cons_zero, List.set_cons_succ])
              have HR156 := Lib.hid h1
              have HN160 := Lib.hid hn0
              clear h1 hn0 hrun
              refine wpE_all (rs := [8]) (by kernel_rfl) (by simp) ?_
              refine AllE.cons rfl (fun K hK => ?_) AllE.nil
              simp only [List.getElem_toArray, List.getElem_cons_succ, List.getElem_cons_zero]
              obtain ⟨A163, n164, c165, X161, hrun, hn0, h1⟩ := HR156.out.app (ys := [oi]) (m := 1) (one_sl (HR156.out.k (z153, #[.int .i64 oi], 3) (by simp))) rfl 1 (by have := HMT8.out; have := HMT.out; simp only [List.nil_append, List.length_cons, List.length_nil]; omega)
              refine step_append_tm (s := .tmp 81) (x := .tmp 86) hrun rfl rfl rfl rfl rfl ?_
              refine hK.out _ _ ⟨fun _ => (HSL.out _ h1.x), trivial⟩ (fun _ => ?_)
              clear hK K
              have hS0 := (HSL.out _ h1.x)
              (try simp only [Act.put, List.setIfInBounds_toArray, List.set_cons_zero, List.set_cons_succ])
              have HR162 := Lib.hid h1
              have HN166 := Lib.hid hn0
              clear h1 hn0 hrun
              refine wpE_all (rs := [9]) (by kernel_rfl) (by simp) ?_
              refine AllE.cons rfl (fun K hK => ?_) AllE.nil
              simp only [List.getElem_toArray, List.getElem_cons_succ, List.getElem_cons_zero]
              go_simp
              go_at_call 36
              refine (HTG.out X161 A163 n164 c165 HN166.out (HR162.out.o _ _ rfl).1).mono ?_
              rintro z9 X167 ⟨t, v9, rfl, hok, ⟨B1, m1, d1, B2, m2, d2, rfl, h71, h72, r71, r72⟩, hx9⟩
              simp only []
              have h1 := HR162.out.call hx9
              refine hK.out _ _ ⟨fun _ => (HSL.out _ h1.x), trivial⟩ (fun _ => ?_)
              clear hK K
              have hS0 := (HSL.out _ h1.x)
              (try simp only [Act.put, List.setIfInBounds_toArray, List.set_cons_zero, List.set_cons_succ])
              have HR168 := Lib.hid h1
              have hul := lt_of_block (HR162.out.k (z131, #[.slice none 0 0, .slice none 0 0], 53) (by simp))
              have HG169 := Lib.hid (show GtU X167 z131 t B1 m1 d1 B2 m2 d2 from ⟨hok, h71, h72, Lay.row_mono r71 fun j hj _ => (by have hul2 : z131 < X161.heap.size := hul; omega), Lay.row_mono r72 fun j hj _ => (by have hul2 : z131 < X161.heap.size := hul; omega)⟩)
              clear hul
              clear h1 hok h71 h72 r71 r72 hx9
              refine wpE_all (rs := [11]) (by kernel_rfl) (by simp) ?_
              refine AllE.cons rfl (fun K hK => ?_) AllE.nil
              simp only [List.getElem_toArray, List.getElem_cons_succ, List.getElem_cons_zero]
              have hu := HR168.out.k (z131, #[.slice none 0 0, .slice none 0 0], 53) (by simp)
              have zq0 := cell_of hu (i := 0) (u := .slice none 0 0) rfl
              have zq1 := cell_of hu (i := 1) (u := .slice none 0 0) rfl
              have zq2 := frozen_of hu 0
              have zq3 := frozen_of hu 1
              have HFN170 := Lib.hid (kw_fin HR168.out.x hu (HR168.out.b (z131, #[.slice none 0 0, .slice none 0 0], 53) (by simp)) HG169.out)
              clear hu
              go_simp
              refine hK.out _ _ ⟨fun _ => HSL.out _ HFN170.out.2, trivial⟩ (fun _ => ?_)
              clear hK K
              (try simp only [Act.put, List.setIfInBounds_toArray, List.set_cons_zero, List.set_cons_succ])
              refine wpE_done (by kernel_rfl) ?_ _
              go_wp2_with fail
              go_meet
              case rel => exact HFN170.out.1
        · skip
          simp only [List.getElem_toArray, List.getElem_cons_succ, List.getElem_cons_zero]
          go_simp
          have h1 := HR0.out.lay #[.int .i64 oi] 3
          refine hK.out _ _ ⟨fun _ => (HSL.out _ h1.x), trivial⟩ (fun _ => ?_)
          clear hK K
          have hS0 := (HSL.out _ h1.x)
          (try simp only [Act.put, List.setIfInBounds_toArray, List.set_cons_zero, List.set_cons_succ])
          obtain ⟨X171, hX1⟩ : ∃ x, X0.alloc (.cells #[.int .i64 oi] 3) = x := ⟨_, rfl⟩
          obtain ⟨z172, hz1⟩ : ∃ x, X0.heap.size = x := ⟨_, rfl⟩
          rw [hX1] at h1 hS0 ⊢
          rw [hz1] at h1 ⊢
          have HR173 := Lib.hid h1
          have hX2 := hX1
          clear h1 hX1
          clear hz1 hX2
          refine wpE_all (rs := [0, 10]) (by kernel_rfl) (by simp) ?_
          refine AllE.cons rfl (fun K hK => ?_) (AllE.cons rfl (fun K hK => ?_) AllE.nil)
          · skip
            simp only [List.getElem_toArray, List.getElem_cons_zero]
            go_simp
            have h1 := HR173.out.own0
            refine hK.out _ _ ⟨fun _ => (HSL.out _ h1.x), trivial⟩ (fun _ => ?_)
            clear hK K
            have hS0 := (HSL.out _ h1.x)
            (try simp only [Act.put, List.setIfInBounds_toArray, List.set_cons_zero, List.set_cons_succ])
            obtain ⟨X174, hX1⟩ : ∃ x, X171.alloc (.cells #[] 3) = x := ⟨_, rfl⟩
            obtain ⟨z175, hz1⟩ : ∃ x, X171.heap.size = x := ⟨_, rfl⟩
            rw [hX1] at h1 hS0 ⊢
            rw [hz1] at h1 ⊢
            have HR176 := Lib.hid h1
            have hX2 := hX1
            clear h1 hX1
            clear hz1 hX2
            refine wpE_all (rs := [2, 10]) (by kernel_rfl) (by simp) ?_
            refine AllE.cons rfl (fun K hK => ?_) (AllE.cons rfl (fun K hK => ?_) AllE.nil)
            · skip
              simp only [List.getElem_toArray, List.getElem_cons_succ, List.getElem_cons_zero]
              obtain ⟨A179, n180, c181, X177, hrun, hn0, h1⟩ := HR176.out.app (HTXS.out _ HR176.out.x) HMT.out ct (by have := HMT8.out; have := HMT.out; simp only [List.length_nil]; omega)
              refine step_append_tm (s := .tmp 79) (x := .tmp 80) hrun rfl rfl rfl rfl rfl ?_
              refine hK.out _ _ ⟨fun _ => (HSL.out _ h1.x), trivial⟩ (fun _ => ?_)
              clear hK K
              have hS0 := (HSL.out _ h1.x)
              (try simp only [Act.put, List.setIfInBounds_toArray, List.set_cons_zero, List.set_cons_succ])
              have HR178 := Lib.hid h1
              have HN182 := Lib.hid hn0
              clear h1 hn0 hrun
              refine wpE_all (rs := [8, 10]) (by kernel_rfl) (by simp) ?_
              refine AllE.cons rfl (fun K hK => ?_) (AllE.cons rfl (fun K hK => ?_) AllE.nil)
              · skip
                simp only [List.getElem_toArray, List.getElem_cons_succ, List.getElem_cons_zero]
                obtain ⟨A185, n186, c187, X183, hrun, hn0, h1⟩ := HR178.out.app (ys := [oi]) (m := 1) (one_sl (HR178.out.k (z172, #[.int .i64 oi], 3) (by simp))) rfl 1 (by have := HMT8.out; have := HMT.out; simp only [List.nil_append, List.length_cons, List.length_nil]; omega)
                refine step_append_tm (s := .tmp 81) (x := .tmp 86) hrun rfl rfl rfl rfl rfl ?_
                refine hK.out _ _ ⟨fun _ => (HSL.out _ h1.x), trivial⟩ (fun _ => ?_)
                clear hK K
                have hS0 := (HSL.out _ h1.x)
                (try simp only [Act.put, List.setIfInBounds_toArray, List.set_cons_zero, List.set_cons_succ])
                have HR184 := Lib.hid h1
                have HN188 := Lib.hid hn0
                clear h1 hn0 hrun
                refine wpE_all (rs := [9, 10]) (by kernel_rfl) (by simp) ?_
                refine AllE.cons rfl (fun K hK => ?_) (AllE.cons rfl (fun K hK => ?_) AllE.nil)
                · skip
                  simp only [List.getElem_toArray, List.getElem_cons_succ, List.getElem_cons_zero]
                  go_simp
                  go_at_call 36
                  refine (HTG.out X183 A185 n186 c187 HN188.out (HR184.out.o _ _ rfl).1).mono ?_
                  rintro z9 X189 ⟨t, v9, rfl, hok, ⟨B1, m1, d1, B2, m2, d2, rfl, h71, h72, r71, r72⟩, hx9⟩
                  simp only []
                  have h1 := HR184.out.call hx9
                  refine hK.out _ _ ⟨fun _ => (HSL.out _ h1.x), trivial⟩ (fun _ => ?_)
                  clear hK K
                  have hS0 := (HSL.out _ h1.x)
                  (try simp only [Act.put, List.setIfInBounds_toArray, List.set_cons_zero, List.set_cons_succ])
                  have HR190 := Lib.hid h1
                  have HG191 := Lib.hid (show GtR X189 t B1 m1 d1 B2 m2 d2 from ⟨hok, h71, h72, Lay.row_mono r71 fun _ _ _ => trivial, Lay.row_mono r72 fun _ _ _ => trivial⟩)
                  clear h1 hok h71 h72 r71 r72 hx9
                  refine wpE_all (rs := [10]) (by kernel_rfl) (by simp) ?_
                  refine AllE.cons rfl (fun K hK => ?_) AllE.nil
                  simp only [List.getElem_toArray, List.getElem_cons_succ, List.getElem_cons_zero]
                  go_simp
                  have h1 := HR190.out.lay #[.slice none 0 0, .slice none 0 0] 53
                  refine hK.out _ _ ⟨fun _ => (HSL.out _ h1.x), trivial⟩ (fun _ => ?_)
                  clear hK K
                  have hS0 := (HSL.out _ h1.x)
                  (try simp only [Act.put, List.setIfInBounds_toArray, List.set_cons_zero, List.set_cons_succ])
                  obtain ⟨X192, hX1⟩ : ∃ x, X189.alloc (.cells #[.slice none 0 0, .slice none 0 0] 53) = x := ⟨_, rfl⟩
                  obtain ⟨z193, hz1⟩ : ∃ x, X189.heap.size = x := ⟨_, rfl⟩
                  rw [hX1] at h1 hS0 ⊢
                  rw [hz1] at h1 ⊢
                  have HR194 := Lib.hid h1
                  have hX2 := hX1
                  clear h1 hX1
                  have HG195 := Lib.hid (show GtU X192 z193 t B1 m1 d1 B2 m2 d2 by rw [← hz1, ← hX2]; exact HG191.out.lay _)
                  clear hz1 hX2
                  refine wpE_all (rs := [11]) (by kernel_rfl) (by simp) ?_
                  refine AllE.cons rfl (fun K hK => ?_) AllE.nil
                  simp only [List.getElem_toArray, List.getElem_cons_succ, List.getElem_cons_zero]
                  have hu := HR194.out.k (z193, #[.slice none 0 0, .slice none 0 0], 53) (by simp)
                  have zq0 := cell_of hu (i := 0) (u := .slice none 0 0) rfl
                  have zq1 := cell_of hu (i := 1) (u := .slice none 0 0) rfl
                  have zq2 := frozen_of hu 0
                  have zq3 := frozen_of hu 1
                  have HFN196 := Lib.hid (kw_fin HR194.out.x hu (HR194.out.b (z193, #[.slice none 0 0, .slice none 0 0], 53) (by simp)) HG195.out)
                  clear hu
                  go_simp
                  refine hK.out _ _ ⟨fun _ => HSL.out _ HFN196.out.2, trivial⟩ (fun _ => ?_)
                  clear hK K
                  (try simp only [Act.put, List.setIfInBounds_toArray, List.set_cons_zero, List.set_cons_succ])
                  refine wpE_done (by kernel_rfl) ?_ _
                  go_wp2_with fail
                  go_meet
                  case rel => exact HFN196.out.1
                · skip
                  simp only [List.getElem_toArray, List.getElem_cons_succ, List.getElem_cons_zero]
                  go_simp
                  have h1 := HR184.out.lay #[.slice none 0 0, .slice none 0 0] 53
                  refine hK.out _ _ ⟨fun _ => (HSL.out _ h1.x), trivial⟩ (fun _ => ?_)
                  clear hK K
                  have hS0 := (HSL.out _ h1.x)
                  (try simp only [Act.put, List.setIfInBounds_toArray, List.set_cons_zero, List.set_cons_succ])
                  obtain ⟨X197, hX1⟩ : ∃ x, X183.alloc (.cells #[.slice none 0 0, .slice none 0 0] 53) = x := ⟨_, rfl⟩
                  obtain ⟨z198, hz1⟩ : ∃ x, X183.heap.size = x := ⟨_, rfl⟩
                  rw [hX1] at h1 hS0 ⊢
                  rw [hz1] at h1 ⊢
                  have HR199 := Lib.hid h1
                  have hX2 := hX1
                  clear h1 hX1
                  clear hz1 hX2
                  refine wpE_all (rs := [9]) (by kernel_rfl) (by simp) ?_
                  refine AllE.cons rfl (fun K hK => ?_) AllE.nil
                  simp only [List.getElem_toArray, List.getElem_cons_succ, List.getElem_cons_zero]
                  go_simp
                  go_at_call 36
                  refine (HTG.out X197 A185 n186 c187 HN188.out (HR199.out.o _ _ rfl).1).mono ?_
                  rintro z9 X200 ⟨t, v9, rfl, hok, ⟨B1, m1, d1, B2, m2, d2, rfl, h71, h72, r71, r72⟩, hx9⟩
                  simp only []
                  have h1 := HR199.out.call hx9
                  refine hK.out _ _ ⟨fun _ => (HSL.out _ h1.x), trivial⟩ (fun _ => ?_)
                  clear hK K
                  have hS0 := (HSL.out _ h1.x)
                  (try simp only [Act.put, List.setIfInBounds_toArray, List.set_cons_zero, List.set_cons_succ])
                  have HR201 := Lib.hid h1
                  have hul := lt_of_block (HR199.out.k (z198, #[.slice none 0 0, .slice none 0 0], 53) (by simp))
                  have HG202 := Lib.hid (show GtU X200 z198 t B1 m1 d1 B2 m2 d2 from ⟨hok, h71, h72, Lay.row_mono r71 fun j hj _ => (by have hul2 : z198 < X197.heap.size := hul; omega), Lay.row_mono r72 fun j hj _ => (by have hul2 : z198 < X197.heap.size := hul; omega)⟩)
                  clear hul
                  clear h1 hok h71 h72 r71 r72 hx9
                  refine wpE_all (rs := [11]) (by kernel_rfl) (by simp) ?_
                  refine AllE.cons rfl (fun K hK => ?_) AllE.nil
                  simp only [List.getElem_toArray, List.getElem_cons_succ, List.getElem_cons_zero]
                  have hu := HR201.out.k (z198, #[.slice none 0 0, .slice none 0 0], 53) (by simp)
                  have zq0 := cell_of hu (i := 0) (u := .slice none 0 0) rfl
                  have zq1 := cell_of hu (i := 1) (u := .slice none 0 0) rfl
                  have zq2 := frozen_of hu 0
                  have zq3 := frozen_of hu 1
                  have HFN203 := Lib.hid (kw_fin HR201.out.x hu (HR201.out.b (z198, #[.slice none 0 0, .slice none 0 0], 53) (by simp)) HG202.out)
                  clear hu
                  go_simp
                  refine hK.out _ _ ⟨fun _ => HSL.out _ HFN203.out.2, trivial⟩ (fun _ => ?_)
                  clear hK K
                  (try simp only [Act.put, List.setIfInBounds_toArray, List.set_cons_zero, List.set_cons_succ])
                  refine wpE_done (by kernel_rfl) ?_ _
                  go_wp2_with fail
                  go_meet
                  case rel => exact HFN203.out.1
              · skip
                simp only [List.getElem_toArray, List.getElem_cons_succ, List.getElem_cons_zero]
                go_simp
                have h1 := HR178.out.lay #[.slice none 0 0, .slice none 0 0] 53
                refine hK.out _ _ ⟨fun _ => (HSL.out _ h1.x), trivial⟩ (fun _ => ?_)
                clear hK K
                have hS0 := (HSL.out _ h1.x)
                (try simp only [Act.put, List.setIfInBounds_toArray, List.set_cons_zero, List.set_cons_succ])
                obtain ⟨X204, hX1⟩ : ∃ x, X177.alloc (.cells #[.slice none 0 0, .slice none 0 0] 53) = x := ⟨_, rfl⟩
                obtain ⟨z205, hz1⟩ : ∃ x, X177.heap.size = x := ⟨_, rfl⟩
                rw [hX1] at h1 hS0 ⊢
                rw [hz1] at h1 ⊢
                have HR206 := Lib.hid h1
                have hX2 := hX1
                clear h1 hX1
                clear hz1 hX2
                refine wpE_all (rs := [8]) (by kernel_rfl) (by simp) ?_
                refine AllE.cons rfl (fun K hK => ?_) AllE.nil
                simp only [List.getElem_toArray, List.getElem_cons_succ, List.getElem_cons_zero]
                obtain ⟨A209, n210, c211, X207, hrun, hn0, h1⟩ := HR206.out.app (ys := [oi]) (m := 1) (one_sl (HR206.out.k (z172, #[.int .i64 oi], 3) (by simp))) rfl 1 (by have := HMT8.out; have := HMT.out; simp only [List.nil_append, List.length_cons, List.length_nil]; omega)
                refine step_append_tm (s := .tmp 81) (x := .tmp 86) hrun rfl rfl rfl rfl rfl ?_
                refine hK.out _ _ ⟨fun _ => (HSL.out _ h1.x), trivial⟩ (fun _ => ?_)
                clear hK K
                have hS0 := (HSL.out _ h1.x)
                (try simp only [Act.put, List.setIfInBounds_toArray, List.set_cons_zero, List.set_cons_succ])
                have HR208 := Lib.hid h1
                have HN212 := Lib.hid hn0
                clear h1 hn0 hrun
                refine wpE_all (rs := [9]) (by kernel_rfl) (by simp) ?_
                refine AllE.cons rfl (fun K hK => ?_) AllE.nil
                simp only [List.getElem_toArray, List.getElem_cons_succ, List.getElem_cons_zero]
                go_simp
                go_at_call 36
                refine (HTG.out X207 A209 n210 c211 HN212.out (HR208.out.o _ _ rfl).1).mono ?_
                rintro z9 X213 ⟨t, v9, rfl, hok, ⟨B1, m1, d1, B2, m2, d2, rfl, h71, h72, r71, r72⟩, hx9⟩
                simp only []
                have h1 := HR208.out.call hx9
                refine hK.out _ _ ⟨fun _ => (HSL.out _ h1.x), trivial⟩ (fun _ => ?_)
                clear hK K
                have hS0 := (HSL.out _ h1.x)
                (try simp only [Act.put, List.setIfInBounds_toArray, List.set_cons_zero, List.set_cons_succ])
                have HR214 := Lib.hid h1
                have hul := lt_of_block (HR208.out.k (z205, #[.slice none 0 0, .slice none 0 0], 53) (by simp))
                have HG215 := Lib.hid (show GtU X213 z205 t B1 m1 d1 B2 m2 d2 from ⟨hok, h71, h72, Lay.row_mono r71 fun j hj _ => (by have hul2 : z205 < X207.heap.size := hul; omega), Lay.row_mono r72 fun j hj _ => (by have hul2 : z205 < X207.heap.size := hul; omega)⟩)
                clear hul
                clear h1 hok h71 h72 r71 r72 hx9
                refine wpE_all (rs := [11]) (by kernel_rfl) (by simp) ?_
                refine AllE.cons rfl (fun K hK => ?_) AllE.nil
                simp only [List.getElem_toArray, List.getElem_cons_succ, List.getElem_cons_zero]
                have hu := HR214.out.k (z205, #[.slice none 0 0, .slice none 0 0], 53) (by simp)
                have zq0 := cell_of hu (i := 0) (u := .slice none 0 0) rfl
                have zq1 := cell_of hu (i := 1) (u := .slice none 0 0) rfl
                have zq2 := frozen_of hu 0
                have zq3 := frozen_of hu 1
                have HFN216 := Lib.hid (kw_fin HR214.out.x hu (HR214.out.b (z205, #[.slice none 0 0, .slice none 0 0], 53) (by simp)) HG215.out)
                clear hu
                go_simp
                refine hK.out _ _ ⟨fun _ => HSL.out _ HFN216.out.2, trivial⟩ (fun _ => ?_)
                clear hK K
                (try simp only [Act.put, List.setIfInBounds_toArray, List.set_cons_zero, List.set_cons_succ])
                refine wpE_done (by kernel_rfl) ?_ _
                go_wp2_with fail
                go_meet
                case rel => exact HFN216.out.1
            · skip
              simp only [List.getElem_toArray, List.getElem_cons_succ, List.getElem_cons_zero]
              go_simp
              have h1 := HR176.out.lay #[.slice none 0 0, .slice none 0 0] 53
              refine hK.out _ _ ⟨fun _ => (HSL.out _ h1.x), trivial⟩ (fun _ => ?_)
              clear hK K
              have hS0 := (HSL.out _ h1.x)
              (try simp only [Act.put, List.setIfInBounds_toArray, List.set_cons_zero, List.set_cons_succ])
              obtain ⟨X217, hX1⟩ : ∃ x, X174.alloc (.cells #[.slice none 0 0, .slice none 0 0] 53) = x := ⟨_, rfl⟩
              obtain ⟨z218, hz1⟩ : ∃ x, X174.heap.size = x := ⟨_, rfl⟩
              rw [hX1] at h1 hS0 ⊢
              rw [hz1] at h1 ⊢
              have HR219 := Lib.hid h1
              have hX2 := hX1
              clear h1 hX1
              clear hz1 hX2
              refine wpE_all (rs := [2]) (by kernel_rfl) (by simp) ?_
              refine AllE.cons rfl (fun K hK => ?_) AllE.nil
              simp only [List.getElem_toArray, List.getElem_cons_succ, List.getElem_cons_zero]
              obtain ⟨A222, n223, c224, X220, hrun, hn0, h1⟩ := HR219.out.app (HTXS.out _ HR219.out.x) HMT.out ct (by have := HMT8.out; have := HMT.out; simp only [List.length_nil]; omega)
              refine step_append_tm (s := .tmp 79) (x := .tmp 80) hrun rfl rfl rfl rfl rfl ?_
              refine hK.out _ _ ⟨fun _ => (HSL.out _ h1.x), trivial⟩ (fun _ => ?_)
              clear hK K
              have hS0 := (HSL.out _ h1.x)
              (try simp only [Act.put, List.setIfInBounds_toArray, List.set_cons_zero, List.set_cons_succ])
              have HR221 := Lib.hid h1
              have HN225 := Lib.hid hn0
              clear h1 hn0 hrun
              refine wpE_all (rs := [8]) (by kernel_rfl) (by simp) ?_
              refine AllE.cons rfl (fun K hK => ?_) AllE.nil
              simp only [List.getElem_toArray, List.getElem_cons_succ, List.getElem_cons_zero]
              obtain ⟨A228, n229, c230, X226, hrun, hn0, h1⟩ := HR221.out.app (ys := [oi]) (m := 1) (one_sl (HR221.out.k (z172, #[.int .i64 oi], 3) (by simp))) rfl 1 (by have := HMT8.out; have := HMT.out; simp only [List.nil_append, List.length_cons, List.length_nil]; omega)
              refine step_append_tm (s := .tmp 81) (x := .tmp 86) hrun rfl rfl rfl rfl rfl ?_
              refine hK.out _ _ ⟨fun _ => (HSL.out _ h1.x), trivial⟩ (fun _ => ?_)
              clear hK K
              have hS0 := (HSL.out _ h1.x)
              (try simp only [Act.put, List.setIfInBounds_toArray, List.set_cons_zero, List.set_cons_succ])
              have HR227 := Lib.hid h1
              have HN231 := Lib.hid hn0
              clear h1 hn0 hrun
              refine wpE_all (rs := [9]) (by kernel_rfl) (by simp) ?_
              refine AllE.cons rfl (fun K hK => ?_) AllE.nil
              simp only [List.getElem_toArray, List.getElem_cons_succ, List.getElem_cons_zero]
              go_simp
              go_at_call 36
              refine (HTG.out X226 A228 n229 c230 HN231.out (HR227.out.o _ _ rfl).1).mono ?_
              rintro z9 X232 ⟨t, v9, rfl, hok, ⟨B1, m1, d1, B2, m2, d2, rfl, h71, h72, r71, r72⟩, hx9⟩
              simp only []
              have h1 := HR227.out.call hx9
              refine hK.out _ _ ⟨fun _ => (HSL.out _ h1.x), trivial⟩ (fun _ => ?_)
              clear hK K
              have hS0 := (HSL.out _ h1.x)
              (try simp only [Act.put, List.setIfInBounds_toArray, List.set_cons_zero, List.set_cons_succ])
              have HR233 := Lib.hid h1
              have hul := lt_of_block (HR227.out.k (z218, #[.slice none 0 0, .slice none 0 0], 53) (by simp))
              have HG234 := Lib.hid (show GtU X232 z218 t B1 m1 d1 B2 m2 d2 from ⟨hok, h71, h72, Lay.row_mono r71 fun j hj _ => (by have hul2 : z218 < X226.heap.size := hul; omega), Lay.row_mono r72 fun j hj _ => (by have hul2 : z218 < X226.heap.size := hul; omega)⟩)
              clear hul
              clear h1 hok h71 h72 r71 r72 hx9
              refine wpE_all (rs := [11]) (by kernel_rfl) (by simp) ?_
              refine AllE.cons rfl (fun K hK => ?_) AllE.nil
              simp only [List.getElem_toArray, List.getElem_cons_succ, List.getElem_cons_zero]
              have hu := HR233.out.k (z218, #[.slice none 0 0, .slice none 0 0], 53) (by simp)
              have zq0 := cell_of hu (i := 0) (u := .slice none 0 0) rfl
              have zq1 := cell_of hu (i := 1) (u := .slice none 0 0) rfl
              have zq2 := frozen_of hu 0
              have zq3 := frozen_of hu 1
              have HFN235 := Lib.hid (kw_fin HR233.out.x hu (HR233.out.b (z218, #[.slice none 0 0, .slice none 0 0], 53) (by simp)) HG234.out)
              clear hu
              go_simp
              refine hK.out _ _ ⟨fun _ => HSL.out _ HFN235.out.2, trivial⟩ (fun _ => ?_)
              clear hK K
              (try simp only [Act.put, List.setIfInBounds_toArray, List.set_cons_zero, List.set_cons_succ])
              refine wpE_done (by kernel_rfl) ?_ _
              go_wp2_with fail
              go_meet
              case rel => exact HFN235.out.1
          · skip
            simp only [List.getElem_toArray, List.getElem_cons_succ, List.getElem_cons_zero]
            go_simp
            have h1 := HR173.out.lay #[.slice none 0 0, .slice none 0 0] 53
            refine hK.out _ _ ⟨fun _ => (HSL.out _ h1.x), trivial⟩ (fun _ => ?_)
            clear hK K
            have hS0 := (HSL.out _ h1.x)
            (try simp only [Act.put, List.setIfInBounds_toArray, List.set_cons_zero, List.set_cons_succ])
            obtain ⟨X236, hX1⟩ : ∃ x, X171.alloc (.cells #[.slice none 0 0, .slice none 0 0] 53) = x := ⟨_, rfl⟩
            obtain ⟨z237, hz1⟩ : ∃ x, X171.heap.size = x := ⟨_, rfl⟩
            rw [hX1] at h1 hS0 ⊢
            rw [hz1] at h1 ⊢
            have HR238 := Lib.hid h1
            have hX2 := hX1
            clear h1 hX1
            clear hz1 hX2
            refine wpE_all (rs := [0]) (by kernel_rfl) (by simp) ?_
            refine AllE.cons rfl (fun K hK => ?_) AllE.nil
            simp only [List.getElem_toArray, List.getElem_cons_zero]
            go_simp
            have h1 := HR238.out.own0
            refine hK.out _ _ ⟨fun _ => (HSL.out _ h1.x), trivial⟩ (fun _ => ?_)
            clear hK K
            have hS0 := (HSL.out _ h1.x)
            (try simp only [Act.put, List.setIfInBounds_toArray, List.set_cons_zero, List.set_cons_succ])
            obtain ⟨X239, hX1⟩ : ∃ x, X236.alloc (.cells #[] 3) = x := ⟨_, rfl⟩
            obtain ⟨z240, hz1⟩ : ∃ x, X236.heap.size = x := ⟨_, rfl⟩
            rw [hX1] at h1 hS0 ⊢
            rw [hz1] at h1 ⊢
            have HR241 := Lib.hid h1
            have hX2 := hX1
            clear h1 hX1
            clear hz1 hX2
            refine wpE_all (rs := [2]) (by kernel_rfl) (by simp) ?_
            refine AllE.cons rfl (fun K hK => ?_) AllE.nil
            simp only [List.getElem_toArray, List.getElem_cons_succ, List.getElem_cons_zero]
            obtain ⟨A244, n245, c246, X242, hrun, hn0, h1⟩ := HR241.out.app (HTXS.out _ HR241.out.x) HMT.out ct (by have := HMT8.out; have := HMT.out; simp only [List.length_nil]; omega)
            refine step_append_tm (s := .tmp 79) (x := .tmp 80) hrun rfl rfl rfl rfl rfl ?_
            refine hK.out _ _ ⟨fun _ => (HSL.out _ h1.x), trivial⟩ (fun _ => ?_)
            clear hK K
            have hS0 := (HSL.out _ h1.x)
            (try simp only [Act.put, List.setIfInBounds_toArray, List.set_cons_zero, List.set_cons_succ])
            have HR243 := Lib.hid h1
            have HN247 := Lib.hid hn0
            clear h1 hn0 hrun
            refine wpE_all (rs := [8]) (by kernel_rfl) (by simp) ?_
            refine AllE.cons rfl (fun K hK => ?_) AllE.nil
            simp only [List.getElem_toArray, List.getElem_cons_succ, List.getElem_cons_zero]
            obtain ⟨A250, n251, c252, X248, hrun, hn0, h1⟩ := HR243.out.app (ys := [oi]) (m := 1) (one_sl (HR243.out.k (z172, #[.int .i64 oi], 3) (by simp))) rfl 1 (by have := HMT8.out; have := HMT.out; simp only [List.nil_append, List.length_cons, List.length_nil]; omega)
            refine step_append_tm (s := .tmp 81) (x := .tmp 86) hrun rfl rfl rfl rfl rfl ?_
            refine hK.out _ _ ⟨fun _ => (HSL.out _ h1.x), trivial⟩ (fun _ => ?_)
            clear hK K
            have hS0 := (HSL.out _ h1.x)
            (try simp only [Act.put, List.setIfInBounds_toArray, List.set_cons_zero, List.set_cons_succ])
            have HR249 := Lib.hid h1
            have HN253 := Lib.hid hn0
            clear h1 hn0 hrun
            refine wpE_all (rs := [9]) (by kernel_rfl) (by simp) ?_
            refine AllE.cons rfl (fun K hK => ?_) AllE.nil
            simp only [List.getElem_toArray, List.getElem_cons_succ, List.getElem_cons_zero]
            go_simp
            go_at_call 36
            refine (HTG.out X248 A250 n251 c252 HN253.out (HR249.out.o _ _ rfl).1).mono ?_
            rintro z9 X254 ⟨t, v9, rfl, hok, ⟨B1, m1, d1, B2, m2, d2, rfl, h71, h72, r71, r72⟩, hx9⟩
            simp only []
            have h1 := HR249.out.call hx9
            refine hK.out _ _ ⟨fun _ => (HSL.out _ h1.x), trivial⟩ (fun _ => ?_)
            clear hK K
            have hS0 := (HSL.out _ h1.x)
            (try simp only [Act.put, List.setIfInBounds_toArray, List.set_cons_zero, List.set_cons_succ])
            have HR255 := Lib.hid h1
            have hul := lt_of_block (HR249.out.k (z237, #[.slice none 0 0, .slice none 0 0], 53) (by simp))
            have HG256 := Lib.hid (show GtU X254 z237 t B1 m1 d1 B2 m2 d2 from ⟨hok, h71, h72, Lay.row_mono r71 fun j hj _ => (by have hul2 : z237 < X248.heap.size := hul; omega), Lay.row_mono r72 fun j hj _ => (by have hul2 : z237 < X248.heap.size := hul; omega)⟩)
            clear hul
            clear h1 hok h71 h72 r71 r72 hx9
            refine wpE_all (rs := [11]) (by kernel_rfl) (by simp) ?_
            refine AllE.cons rfl (fun K hK => ?_) AllE.nil
            simp only [List.getElem_toArray, List.getElem_cons_succ, List.getElem_cons_zero]
            have hu := HR255.out.k (z237, #[.slice none 0 0, .slice none 0 0], 53) (by simp)
            have zq0 := cell_of hu (i := 0) (u := .slice none 0 0) rfl
            have zq1 := cell_of hu (i := 1) (u := .slice none 0 0) rfl
            have zq2 := frozen_of hu 0
            have zq3 := frozen_of hu 1
            have HFN257 := Lib.hid (kw_fin HR255.out.x hu (HR255.out.b (z237, #[.slice none 0 0, .slice none 0 0], 53) (by simp)) HG256.out)
            clear hu
            go_simp
            refine hK.out _ _ ⟨fun _ => HSL.out _ HFN257.out.2, trivial⟩ (fun _ => ?_)
            clear hK K
            (try simp only [Act.put, List.setIfInBounds_toArray, List.set_cons_zero, List.set_cons_succ])
            refine wpE_done (by kernel_rfl) ?_ _
            go_wp2_with fail
            go_meet
            case rel => exact HFN257.out.1
        · skip
          simp only [List.getElem_toArray, List.getElem_cons_succ, List.getElem_cons_zero]
          go_simp
          have h1 := HR0.out.lay #[.slice none 0 0, .slice none 0 0] 53
          refine hK.out _ _ ⟨fun _ => (HSL.out _ h1.x), trivial⟩ (fun _ => ?_)
          clear hK K
          have hS0 := (HSL.out _ h1.x)
          (try simp only [Act.put, List.setIfInBounds_toArray, List.set_cons_zero, List.set_cons_succ])
          obtain ⟨X258, hX1⟩ : ∃ x, X0.alloc (.cells #[.slice none 0 0, .slice none 0 0] 53) = x := ⟨_, rfl⟩
          obtain ⟨z259, hz1⟩ : ∃ x, X0.heap.size = x := ⟨_, rfl⟩
          rw [hX1] at h1 hS0 ⊢
          rw [hz1] at h1 ⊢
          have HR260 := Lib.hid h1
          have hX2 := hX1
          clear h1 hX1
          clear hz1 hX2
          refine wpE_all (rs := [0, 7]) (by kernel_rfl) (by simp) ?_
          refine AllE.cons rfl (fun K hK => ?_) (AllE.cons rfl (fun K hK => ?_) AllE.nil)
          · skip
            simp only [List.getElem_toArray, List.getElem_cons_zero]
            go_simp
            have h1 := HR260.out.own0
            refine hK.out _ _ ⟨fun _ => (HSL.out _ h1.x), trivial⟩ (fun _ => ?_)
            clear hK K
            have hS0 := (HSL.out _ h1.x)
            (try simp only [Act.put, List.setIfInBounds_toArray, List.set_cons_zero, List.set_cons_succ])
            obtain ⟨X261, hX1⟩ : ∃ x, X258.alloc (.cells #[] 3) = x := ⟨_, rfl⟩
            obtain ⟨z262, hz1⟩ : ∃ x, X258.heap.size = x := ⟨_, rfl⟩
            rw [hX1] at h1 hS0 ⊢
            rw [hz1] at h1 ⊢
            have HR263 := Lib.hid h1
            have hX2 := hX1
            clear h1 hX1
            clear hz1 hX2
            refine wpE_all (rs := [2, 7]) (by kernel_rfl) (by simp) ?_
            refine AllE.cons rfl (fun K hK => ?_) (AllE.cons rfl (fun K hK => ?_) AllE.nil)
            · skip
              simp only [List.getElem_toArray, List.getElem_cons_succ, List.getElem_cons_zero]
              obtain ⟨A266, n267, c268, X264, hrun, hn0, h1⟩ := HR263.out.app (HTXS.out _ HR263.out.x) HMT.out ct (by have := HMT8.out; have := HMT.out; simp only [List.length_nil]; omega)
              refine step_append_tm (s := .tmp 79) (x := .tmp 80) hrun rfl rfl rfl rfl rfl ?_
              refine hK.out _ _ ⟨fun _ => (HSL.out _ h1.x), trivial⟩ (fun _ => ?_)
              clear hK K
              have hS0 := (HSL.out _ h1.x)
              (try simp only [Act.put, List.setIfInBounds_toArray, List.set_cons_zero, List.set_cons_succ])
              have HR265 := Lib.hid h1
              have HN269 := Lib.hid hn0
              clear h1 hn0 hrun
              refine wpE_all (rs := [7]) (by kernel_rfl) (by simp) ?_
              refine AllE.cons rfl (fun K hK => ?_) AllE.nil
              simp only [List.getElem_toArray, List.getElem_cons_succ, List.getElem_cons_zero]
              go_simp
              have h1 := HR265.out.lay #[.int .i64 oi] 3
              refine hK.out _ _ ⟨fun _ => (HSL.out _ h1.x), trivial⟩ (fun _ => ?_)
              clear hK K
              have hS0 := (HSL.out _ h1.x)
              (try simp only [Act.put, List.setIfInBounds_toArray, List.set_cons_zero, List.set_cons_succ])
              obtain ⟨X270, hX1⟩ : ∃ x, X264.alloc (.cells #[.int .i64 oi] 3) = x := ⟨_, rfl⟩
              obtain ⟨z271, hz1⟩ : ∃ x, X264.heap.size = x := ⟨_, rfl⟩
              rw [hX1] at h1 hS0 ⊢
              rw [hz1] at h1 ⊢
              have HR272 := Lib.hid h1
              have hX2 := hX1
              clear h1 hX1
              clear hz1 hX2
              refine wpE_all (rs := [8]) (by kernel_rfl) (by simp) ?_
              refine AllE.cons rfl (fun K hK => ?_) AllE.nil
              simp only [List.getElem_toArray, List.getElem_cons_succ, List.getElem_cons_zero]
              obtain ⟨A275, n276, c277, X273, hrun, hn0, h1⟩ := HR272.out.app (ys := [oi]) (m := 1) (one_sl (HR272.out.k (z271, #[.int .i64 oi], 3) (by simp))) rfl 1 (by have := HMT8.out; have := HMT.out; simp only [List.nil_append, List.length_cons, List.length_nil]; omega)
              refine step_append_tm (s := .tmp 81) (x := .tmp 86) hrun rfl rfl rfl rfl rfl ?_
              refine hK.out _ _ ⟨fun _ => (HSL.out _ h1.x), trivial⟩ (fun _ => ?_)
              clear hK K
              have hS0 := (HSL.out _ h1.x)
              (try simp only [Act.put, List.setIfInBounds_toArray, List.set_cons_zero, List.set_cons_succ])
              have HR274 := Lib.hid h1
              have HN278 := Lib.hid hn0
              clear h1 hn0 hrun
              refine wpE_all (rs := [9]) (by kernel_rfl) (by simp) ?_
              refine AllE.cons rfl (fun K hK => ?_) AllE.nil
              simp only [List.getElem_toArray, List.getElem_cons_succ, List.getElem_cons_zero]
              go_simp
              go_at_call 36
              refine (HTG.out X273 A275 n276 c277 HN278.out (HR274.out.o _ _ rfl).1).mono ?_
              rintro z9 X279 ⟨t, v9, rfl, hok, ⟨B1, m1, d1, B2, m2, d2, rfl, h71, h72, r71, r72⟩, hx9⟩
              simp only []
              have h1 := HR274.out.call hx9
              refine hK.out _ _ ⟨fun _ => (HSL.out _ h1.x), trivial⟩ (fun _ => ?_)
              clear hK K
              have hS0 := (HSL.out _ h1.x)
              (try simp only [Act.put, List.setIfInBounds_toArray, List.set_cons_zero, List.set_cons_succ])
              have HR280 := Lib.hid h1
              have hul := lt_of_block (HR274.out.k (z259, #[.slice none 0 0, .slice none 0 0], 53) (by simp))
              have HG281 := Lib.hid (show GtU X279 z259 t B1 m1 d1 B2 m2 d2 from ⟨hok, h71, h72, Lay.row_mono r71 fun j hj _ => (by have hul2 : z259 < X273.heap.size := hul; omega), Lay.row_mono r72 fun j hj _ => (by have hul2 : z259 < X273.heap.size := hul; omega)⟩)
              clear hul
              clear h1 hok h71 h72 r71 r72 hx9
              refine wpE_all (rs := [11]) (by kernel_rfl) (by simp) ?_
              refine AllE.cons rfl (fun K hK => ?_) AllE.nil
              simp only [List.getElem_toArray, List.getElem_cons_succ, List.getElem_cons_zero]
              have hu := HR280.out.k (z259, #[.slice none 0 0, .slice none 0 0], 53) (by simp)
              have zq0 := cell_of hu (i := 0) (u := .slice none 0 0) rfl
              have zq1 := cell_of hu (i := 1) (u := .slice none 0 0) rfl
              have zq2 := frozen_of hu 0
              have zq3 := frozen_of hu 1
              have HFN282 := Lib.hid (kw_fin HR280.out.x hu (HR280.out.b (z259, #[.slice none 0 0, .slice none 0 0], 53) (by simp)) HG281.out)
              clear hu
              go_simp
              refine hK.out _ _ ⟨fun _ => HSL.out _ HFN282.out.2, trivial⟩ (fun _ => ?_)
              clear hK K
              (try simp only [Act.put, List.setIfInBounds_toArray, List.set_cons_zero, List.set_cons_succ])
              refine wpE_done (by kernel_rfl) ?_ _
              go_wp2_with fail
              go_meet
              case rel => exact HFN282.out.1
            · skip
              simp only [List.getElem_toArray, List.getElem_cons_succ, List.getElem_cons_zero]
              go_simp
              have h1 := HR263.out.lay #[.int .i64 oi] 3
              refine hK.out _ _ ⟨fun _ => (HSL.out _ h1.x), trivial⟩ (fun _ => ?_)
              clear hK K
              have hS0 := (HSL.out _ h1.x)
              (try simp only [Act.put, List.setIfInBounds_toArray, List.set_cons_zero, List.set_cons_succ])
              obtain ⟨X283, hX1⟩ : ∃ x, X261.alloc (.cells #[.int .i64 oi] 3) = x := ⟨_, rfl⟩
              obtain ⟨z284, hz1⟩ : ∃ x, X261.heap.size = x := ⟨_, rfl⟩
              rw [hX1] at h1 hS0 ⊢
              rw [hz1] at h1 ⊢
              have HR285 := Lib.hid h1
              have hX2 := hX1
              clear h1 hX1
              clear hz1 hX2
              refine wpE_all (rs := [2]) (by kernel_rfl) (by simp) ?_
              refine AllE.cons rfl (fun K hK => ?_) AllE.nil
              simp only [List.getElem_toArray, List.getElem_cons_succ, List.getElem_cons_zero]
              obtain ⟨A288, n289, c290, X286, hrun, hn0, h1⟩ := HR285.out.app (HTXS.out _ HR285.out.x) HMT.out ct (by have := HMT8.out; have := HMT.out; simp only [List.length_nil]; omega)
              refine step_append_tm (s := .tmp 79) (x := .tmp 80) hrun rfl rfl rfl rfl rfl ?_
              refine hK.out _ _ ⟨fun _ => (HSL.out _ h1.x), trivial⟩ (fun _ => ?_)
              clear hK K
              have hS0 := (HSL.out _ h1.x)
              (try simp only [Act.put, List.setIfInBounds_toArray, List.set_cons_zero, List.set_cons_succ])
              have HR287 := Lib.hid h1
              have HN291 := Lib.hid hn0
              clear h1 hn0 hrun
              refine wpE_all (rs := [8]) (by kernel_rfl) (by simp) ?_
              refine AllE.cons rfl (fun K hK => ?_) AllE.nil
              simp only [List.getElem_toArray, List.getElem_cons_succ, List.getElem_cons_zero]
              obtain ⟨A294, n295, c296, X292, hrun, hn0, h1⟩ := HR287.out.app (ys := [oi]) (m := 1) (one_sl (HR287.out.k (z284, #[.int .i64 oi], 3) (by simp))) rfl 1 (by have := HMT8.out; have := HMT.out; simp only [List.nil_append, List.length_cons, List.length_nil]; omega)
              refine step_append_tm (s := .tmp 81) (x := .tmp 86) hrun rfl rfl rfl rfl rfl ?_
              refine hK.out _ _ ⟨fun _ => (HSL.out _ h1.x), trivial⟩ (fun _ => ?_)
              clear hK K
              have hS0 := (HSL.out _ h1.x)
              (try simp only [Act.put, List.setIfInBounds_toArray, List.set_cons_zero, List.set_cons_succ])
              have HR293 := Lib.hid h1
              have HN297 := Lib.hid hn0
              clear h1 hn0 hrun
              refine wpE_all (rs := [9]) (by kernel_rfl) (by simp) ?_
              refine AllE.cons rfl (fun K hK => ?_) AllE.nil
              simp only [List.getElem_toArray, List.getElem_cons_succ, List.getElem_cons_zero]
              go_simp
              go_at_call 36
              refine (HTG.out X292 A294 n295 c296 HN297.out (HR293.out.o _ _ rfl).1).mono ?_
              rintro z9 X298 ⟨t, v9, rfl, hok, ⟨B1, m1, d1, B2, m2, d2, rfl, h71, h72, r71, r72⟩, hx9⟩
              simp only []
              have h1 := HR293.out.call hx9
              refine hK.out _ _ ⟨fun _ => (HSL.out _ h1.x), trivial⟩ (fun _ => ?_)
              clear hK K
              have hS0 := (HSL.out _ h1.x)
              (try simp only [Act.put, List.setIfInBounds_toArray, List.set_cons_zero, List.set_cons_succ])
              have HR299 := Lib.hid h1
              have hul := lt_of_block (HR293.out.k (z259, #[.slice none 0 0, .slice none 0 0], 53) (by simp))
              have HG300 := Lib.hid (show GtU X298 z259 t B1 m1 d1 B2 m2 d2 from ⟨hok, h71, h72, Lay.row_mono r71 fun j hj _ => (by have hul2 : z259 < X292.heap.size := hul; omega), Lay.row_mono r72 fun j hj _ => (by have hul2 : z259 < X292.heap.size := hul; omega)⟩)
              clear hul
              clear h1 hok h71 h72 r71 r72 hx9
              refine wpE_all (rs := [11]) (by kernel_rfl) (by simp) ?_
              refine AllE.cons rfl (fun K hK => ?_) AllE.nil
              simp only [List.getElem_toArray, List.getElem_cons_succ, List.getElem_cons_zero]
              have hu := HR299.out.k (z259, #[.slice none 0 0, .slice none 0 0], 53) (by simp)
              have zq0 := cell_of hu (i := 0) (u := .slice none 0 0) rfl
              have zq1 := cell_of hu (i := 1) (u := .slice none 0 0) rfl
              have zq2 := frozen_of hu 0
              have zq3 := frozen_of hu 1
              have HFN301 := Lib.hid (kw_fin HR299.out.x hu (HR299.out.b (z259, #[.slice none 0 0, .slice none 0 0], 53) (by simp)) HG300.out)
              clear hu
              go_simp
              refine hK.out _ _ ⟨fun _ => HSL.out _ HFN301.out.2, trivial⟩ (fun _ => ?_)
              clear hK K
              (try simp only [Act.put, List.setIfInBounds_toArray, List.set_cons_zero, List.set_cons_succ])
              refine wpE_done (by kernel_rfl) ?_ _
              go_wp2_with fail
              go_meet
              case rel => exact HFN301.out.1
          · skip
            simp only [List.getElem_toArray, List.getElem_cons_succ, List.getElem_cons_zero]
            go_simp
            have h1 := HR260.out.lay #[.int .i64 oi] 3
            refine hK.out _ _ ⟨fun _ => (HSL.out _ h1.x), trivial⟩ (fun _ => ?_)
            clear hK K
            have hS0 := (HSL.out _ h1.x)
            (try simp only [Act.put, List.setIfInBounds_toArray, List.set_cons_zero, List.set_cons_succ])
            obtain ⟨X302, hX1⟩ : ∃ x, X258.alloc (.cells #[.int .i64 oi] 3) = x := ⟨_, rfl⟩
            obtain ⟨z303, hz1⟩ : ∃ x, X258.heap.size = x := ⟨_, rfl⟩
            rw [hX1] at h1 hS0 ⊢
            rw [hz1] at h1 ⊢
            have HR304 := Lib.hid h1
            have hX2 := hX1
            clear h1 hX1
            clear hz1 hX2
            refine wpE_all (rs := [0]) (by kernel_rfl) (by simp) ?_
            refine AllE.cons rfl (fun K hK => ?_) AllE.nil
            simp only [List.getElem_toArray, List.getElem_cons_zero]
            go_simp
            have h1 := HR304.out.own0
            refine hK.out _ _ ⟨fun _ => (HSL.out _ h1.x), trivial⟩ (fun _ => ?_)
            clear hK K
            have hS0 := (HSL.out _ h1.x)
            (try simp only [Act.put, List.setIfInBounds_toArray, List.set_cons_zero, List.set_cons_succ])
            obtain ⟨X305, hX1⟩ : ∃ x, X302.alloc (.cells #[] 3) = x := ⟨_, rfl⟩
            obtain ⟨z306, hz1⟩ : ∃ x, X302.heap.size = x := ⟨_, rfl⟩
            rw [hX1] at h1 hS0 ⊢
            rw [hz1] at h1 ⊢
            have HR307 := Lib.hid h1
            have hX2 := hX1
            clear h1 hX1
            clear hz1 hX2
            refine wpE_all (rs := [2]) (by kernel_rfl) (by simp) ?_
            refine AllE.cons rfl (fun K hK => ?_) AllE.nil
            simp only [List.getElem_toArray, List.getElem_cons_succ, List.getElem_cons_zero]
            obtain ⟨A310, n311, c312, X308, hrun, hn0, h1⟩ := HR307.out.app (HTXS.out _ HR307.out.x) HMT.out ct (by have := HMT8.out; have := HMT.out; simp only [List.length_nil]; omega)
            refine step_append_tm (s := .tmp 79) (x := .tmp 80) hrun rfl rfl rfl rfl rfl ?_
            refine hK.out _ _ ⟨fun _ => (HSL.out _ h1.x), trivial⟩ (fun _ => ?_)
            clear hK K
            have hS0 := (HSL.out _ h1.x)
            (try simp only [Act.put, List.setIfInBounds_toArray, List.set_cons_zero, List.set_cons_succ])
            have HR309 := Lib.hid h1
            have HN313 := Lib.hid hn0
            clear h1 hn0 hrun
            refine wpE_all (rs := [8]) (by kernel_rfl) (by simp) ?_
            refine AllE.cons rfl (fun K hK => ?_) AllE.nil
            simp only [List.getElem_toArray, List.getElem_cons_succ, List.getElem_cons_zero]
            obtain ⟨A316, n317, c318, X314, hrun, hn0, h1⟩ := HR309.out.app (ys := [oi]) (m := 1) (one_sl (HR309.out.k (z303, #[.int .i64 oi], 3) (by simp))) rfl 1 (by have := HMT8.out; have := HMT.out; simp only [List.nil_append, List.length_cons, List.length_nil]; omega)
            refine step_append_tm (s := .tmp 81) (x := .tmp 86) hrun rfl rfl rfl rfl rfl ?_
            refine hK.out _ _ ⟨fun _ => (HSL.out _ h1.x), trivial⟩ (fun _ => ?_)
            clear hK K
            have hS0 := (HSL.out _ h1.x)
            (try simp only [Act.put, List.setIfInBounds_toArray, List.set_cons_zero, List.set_cons_succ])
            have HR315 := Lib.hid h1
            have HN319 := Lib.hid hn0
            clear h1 hn0 hrun
            refine wpE_all (rs := [9]) (by kernel_rfl) (by simp) ?_
            refine AllE.cons rfl (fun K hK => ?_) AllE.nil
            simp only [List.getElem_toArray, List.getElem_cons_succ, List.getElem_cons_zero]
            go_simp
            go_at_call 36
            refine (HTG.out X314 A316 n317 c318 HN319.out (HR315.out.o _ _ rfl).1).mono ?_
            rintro z9 X320 ⟨t, v9, rfl, hok, ⟨B1, m1, d1, B2, m2, d2, rfl, h71, h72, r71, r72⟩, hx9⟩
            simp only []
            have h1 := HR315.out.call hx9
            refine hK.out _ _ ⟨fun _ => (HSL.out _ h1.x), trivial⟩ (fun _ => ?_)
            clear hK K
            have hS0 := (HSL.out _ h1.x)
            (try simp only [Act.put, List.setIfInBounds_toArray, List.set_cons_zero, List.set_cons_succ])
            have HR321 := Lib.hid h1
            have hul := lt_of_block (HR315.out.k (z259, #[.slice none 0 0, .slice none 0 0], 53) (by simp))
            have HG322 := Lib.hid (show GtU X320 z259 t B1 m1 d1 B2 m2 d2 from ⟨hok, h71, h72, Lay.row_mono r71 fun j hj _ => (by have hul2 : z259 < X314.heap.size := hul; omega), Lay.row_mono r72 fun j hj _ => (by have hul2 : z259 < X314.heap.size := hul; omega)⟩)
            clear hul
            clear h1 hok h71 h72 r71 r72 hx9
            refine wpE_all (rs := [11]) (by kernel_rfl) (by simp) ?_
            refine AllE.cons rfl (fun K hK => ?_) AllE.nil
            simp only [List.getElem_toArray, List.getElem_cons_succ, List.getElem_cons_zero]
            have hu := HR321.out.k (z259, #[.slice none 0 0, .slice none 0 0], 53) (by simp)
            have zq0 := cell_of hu (i := 0) (u := .slice none 0 0) rfl
            have zq1 := cell_of hu (i := 1) (u := .slice none 0 0) rfl
            have zq2 := frozen_of hu 0
            have zq3 := frozen_of hu 1
            have HFN323 := Lib.hid (kw_fin HR321.out.x hu (HR321.out.b (z259, #[.slice none 0 0, .slice none 0 0], 53) (by simp)) HG322.out)
            clear hu
            go_simp
            refine hK.out _ _ ⟨fun _ => HSL.out _ HFN323.out.2, trivial⟩ (fun _ => ?_)
            clear hK K
            (try simp only [Act.put, List.setIfInBounds_toArray, List.set_cons_zero, List.set_cons_succ])
            refine wpE_done (by kernel_rfl) ?_ _
            go_wp2_with fail
            go_meet
            case rel => exact HFN323.out.1
      case rest =>
        obtain ⟨zt, t, B1, m1, d1, B2, m2, d2, rfl, hT, hbt, hr71, hr72, hx13⟩ := hcut
        have HBC := Lib.hid ((hx13.block _ (lt_of_block HBZ.out)).trans HBZ.out)
        have b0 := cell_of HBC.out (i := 0) (u := .int .i64 b.ms) rfl
        have b1 := cell_of HBC.out (i := 1) (u := .int .i64 b.ht) rfl
        have b2 := cell_of HBC.out (i := 2) (u := .slice As ns cs) rfl
        have HX13 := Lib.hid hx13
        have HBT := Lib.hid hbt
        have HRT := Lib.hid (And.intro hr71 hr72)
        have HT := Lib.hid hT
        clear hx13 hbt hr71 hr72 hT HTG HTXS
        obtain ⟨q, hq⟩ : ∃ q, r.tmod 4 = q := ⟨_, rfl⟩
        go_upto_if 94 with (fail)
        obtain ⟨w14, hw14⟩ : ∃ w14, wc.alloc (.cells #[.int .i64 b.ms, .int .i64 b.ht, .slice As ns cs] 27) = w14 := ⟨_, rfl⟩
        obtain ⟨zn, hzn⟩ : ∃ z, wc.heap.size = z := ⟨_, rfl⟩
        have hx14 : Ext wc w14 := by rw [← hw14]; exact (Ext.refl wc).alloc _
        have hn14 : w14.heap[zn]? = some (.cells #[.int .i64 b.ms, .int .i64 b.ht, .slice As ns cs] 27 (0, 0)) := by rw [← hw14, ← hzn]; exact heap_alloc_at _ _ _ _ rfl
        rw [hw14, hzn]
        have HX14 := Lib.hid (HX13.out.trans hx14)
        have HN14 := Lib.hid hn14
        have hb14 := (hx14.block _ (lt_of_block HBC.out)).trans HBC.out
        have ht14 := (hx14.block _ (lt_of_block HBT.out)).trans HBT.out
        have HB14 := Lib.hid hb14
        have HMV14 := Lib.hid (HMV.out.trans (Mv.of_ext HX14.out) : Mv zb w9 w14)
        have HROW14 := Lib.hid (Lay.row_ext (Lay.row_mono (Q := fun j => j ≠ zb ∧ j ≠ zn) HROW.out fun j hj hl => ⟨hj, by have := HX13.out.lt; omega⟩) HX14.out)
        have HZN := Lib.hid (show w9.heap.size ≤ zn ∧ zb < zn ∧ zn < w14.heap.size from ⟨by rw [← hzn]; exact Nat.le_trans HMV.out.size (HX13.out.lt), by rw [← hzn]; exact Nat.lt_of_lt_of_le (lt_of_block HBZ.out) HX13.out.lt, lt_of_block hn14⟩)
        have HT1 := Lib.hid (Lay.row_ext HRT.out.1 hx14)
        have HT2 := Lib.hid (Lay.row_ext HRT.out.2 hx14)
        have HL14 := Lib.hid (HL.out.ext (HXR.out.trans HX14.out))
        have b0 := cell_of hb14 (i := 0) (u := .int .i64 b.ms) rfl
        have b1 := cell_of hb14 (i := 1) (u := .int .i64 b.ht) rfl
        have b2 := cell_of hb14 (i := 2) (u := .slice As ns cs) rfl
        have t0 := cell_of ht14 (i := 0) (u := .slice B1 m1 d1) rfl
        have t1 := cell_of ht14 (i := 1) (u := .slice B2 m2 d2) rfl
        have HBK := Lib.hid (HKB.out.ok.big (N' := 10) (V' := 9) (by omega) (by omega))
        have HBI2 := Lib.hid (HBK.out.bkI (by omega) (by omega) (by omega))
        have HGO := Lib.hid (fun (wf : World) (hxf : Ext w14 wf) => (show ∃ a0 a1 a2, wf.heap[zn]? = some (.cells #[a0, a1, a2] 27 (0, 0)) from ⟨_, _, _, (hxf.block _ (lt_of_block HN14.out)).trans HN14.out⟩))
        clear hw14 hzn hx14 hn14 hb14 ht14 HX13 HBC HBT HRT HMV HROW hq
        have HADD := Lib.hid (show Calls Tryz.prog 37 #[.agg #[.int .i64 b.ms, .int .i64 b.ht, .slice As ns cs], .int .i64 (500 + (k : Int)), .int .i64 (900 + (k : Int)), .agg #[.slice B1 m1 d1, .slice B2 m2 d2]] w14 (KwO w14 (frzP b) e x k) from by
          have e1 : B.ms = b.ms := HMS.out.1
          have e2 : B.ht = b.ht := HMS.out.2
          rw [← e1, ← e2]
          have hno : ¬ 0 ≤ idxI (fun s : Se => s.ent == 500 + (k : Int)) B.secs → ∀ s ∈ B.secs, s.ent ≠ 500 + (k : Int) := fun h s hs => by have := idxI_none _ _ h s hs; simpa using this
          refine (add_any (fun j => j ≠ zb ∧ j ≠ zn) (fun _ => True) w14 B (500 + (k : Int)) (900 + (k : Int)) t As B1 B2 ns cs m1 d1 m2 d2 HBI2.out HBK.out.h0 (fun h => (HBK.out.add (by omega) _ HT.out (hno h)).bkI (by omega) (by omega) (by omega)) HT.out HROW14.out HT1.out HT2.out HL14.out).mono fun z wf h => kw_of HMS.out.1 HMS.out.2 h fun h0 => ?_
          refine HKB.out.add _ HT.out (hno fun hge => ?_)
          unfold addE at h0
          rw [if_pos hge] at h0
          exact absurd h0 (by decide))
        have HCOR := Lib.hid (show Calls Tryz.prog 38 #[.agg #[.int .i64 b.ms, .int .i64 b.ht, .slice As ns cs], .int .i64 e, .int .i64 (900 + (k : Int)), .agg #[.slice B1 m1 d1, .slice B2 m2 d2]] w14 (KwO w14 (frzP b) e x k) from by
          have e1 : B.ms = b.ms := HMS.out.1
          have e2 : B.ht = b.ht := HMS.out.2
          rw [← e1, ← e2]
          obtain ⟨j, xs, hj, hxs, hxe⟩ := idxI_some (fun s : Se => s.ent == e) B.secs (by
            have h1 := idxI_any (fun s : Se => s.ent == e) B.secs
            have h2 := HKB.out.fz
            unfold frzIn at h2
            rw [List.any_eq_true] at h2
            obtain ⟨s, hs, h3⟩ := h2
            simp only [Bool.and_eq_true] at h3
            rw [List.any_eq_true.2 ⟨s, hs, h3.1⟩] at h1
            simpa using h1)
          have hxm := List.mem_of_getElem? hxs
          have hxe' : xs.ent = e := by simpa using hxe
          have hvs := HBK.out.vs xs hxm
          refine (correct_any (fun j => j ≠ zb ∧ j ≠ zn) (fun _ => True) w14 B e (900 + (k : Int)) t j xs As B1 B2 ns cs m1 d1 m2 d2 HBI2.out HBK.out.h0 ((HBK.out.cor hxs _ HT.out).bkI (by omega) (by omega) (by omega)) HT.out hj hxs (HKB.out.fa xs hxm hxe') (by omega) (by omega) HROW14.out HT1.out HT2.out HL14.out).mono fun z wf h => kw_of HMS.out.1 HMS.out.2 h fun h0 => ?_
          refine HKB.out.cor hxs hxe' HT.out fun hv => ?_
          unfold corE at h0
          rw [if_neg (by simp; omega), if_pos (by simpa using hv)] at h0
          exact absurd h0 (by decide))
        have HSTR := Lib.hid (show Calls Tryz.prog 51 #[.agg #[.int .i64 b.ms, .int .i64 b.ht, .slice As ns cs], .int .i64 e] w14 (KwO w14 (frzP b) e x k) from by
          have e1 : B.ms = b.ms := HMS.out.1
          have e2 : B.ht = b.ht := HMS.out.2
          rw [← e1, ← e2]
          exact (strike_any (fun j => j ≠ zb ∧ j ≠ zn) w14 B e As ns cs HBI2.out HROW14.out HKB.out.fa).mono fun z wf h => kw_of HMS.out.1 HMS.out.2 h fun _ => HKB.out.succ)
        have HFRZ := Lib.hid (show Calls Tryz.prog 35 #[.agg #[.int .i64 b.ms, .int .i64 b.ht, .slice As ns cs]] w14 (fun z wf => Ext w14 wf ∧ ∃ g', z = .returned (.agg #[.int .i64 b.ms, .int .i64 b.ht, .slice (some ⟨g', 0, none⟩) ns ns]) ∧ kSe.row wf (fun j => w14.heap.size ≤ j) (some ⟨g', 0, none⟩) ns (frzP B).secs) from by
          have e1 : B.ms = b.ms := HMS.out.1
          have e2 : B.ht = b.ht := HMS.out.2
          rw [← e1, ← e2]
          refine (freeze_any (fun j => j ≠ zb ∧ j ≠ zn) w14 B As ns cs HROW14.out HBI2.out.s).mono ?_
          rintro z wf ⟨g', rfl, hbk, hxf⟩
          have h9 := hbk.row
          rw [show (frzP B).secs.length = ns by rw [Lay.row_len HROW14.out]; simp [frzP]] at h9
          exact ⟨hxf, g', rfl, h9⟩)
        clear HT1 HT2 HL14 HBI2
        by_cases q0 : q = 0
        · subst q0
          go_upto_if 126 with (first | (go_at_call 37; refine (HADD.out).mono ?_; rintro z11 wf ⟨hxf, m', h', A', n', c', er, rfl, hres⟩; obtain ⟨y0, y1, y2, hyn⟩ := HGO.out wf hxf; have g0 := cell_of hyn (i := 0) (u := y0) rfl; have g1 := cell_of hyn (i := 1) (u := y1) rfl; have g2 := cell_of hyn (i := 2) (u := y2) rfl; have g3 := frozen_of hyn 0; have g4 := frozen_of hyn 1; have g5 := frozen_of hyn 2; have HXF := Lib.hid hxf; have HYN := Lib.hid hyn; have HRES := Lib.hid hres; clear hxf hyn hres))
          obtain ⟨Y, hY⟩ : ∃ Y, ((wf.setCell ⟨zn, 0, none⟩ (.int .i64 m')).setCell ⟨zn, 1, none⟩ (.int .i64 h')).setCell ⟨zn, 2, none⟩ (.slice A' n' c') = Y := ⟨_, rfl⟩
          have hy := kw_y (HMV14.out.trans (Mv.of_ext HXF.out)) HYN.out HZN.out.1 (.int .i64 m') (.int .i64 h') (.slice A' n' c')
          rw [hY] at hy ⊢
          have hbY := (hy.k zb (by have := HZN.out; omega)).trans ((HXF.out.block _ (lt_of_block HB14.out)).trans HB14.out)
          have HREL := Lib.hid (kw_rel hy HZN.out HXF.out hbY HKB.out HMS.out.1 HMS.out.2 HNC.out HROW14.out HRES.out (by omega))
          have g0 := cell_of hy.n (i := 0) (u := .int .i64 m') rfl
          have g1 := cell_of hy.n (i := 1) (u := .int .i64 h') rfl
          have g2 := cell_of hy.n (i := 2) (u := .slice A' n' c') rfl
          have f0 := cell_of hbY (i := 0) (u := .int .i64 b.ms) rfl
          have f1 := cell_of hbY (i := 1) (u := .int .i64 b.ht) rfl
          have f2 := cell_of hbY (i := 2) (u := .slice As ns cs) rfl
          have f3 := frozen_of hbY 0
          have f4 := frozen_of hbY 1
          have f5 := frozen_of hbY 2
          clear hY hy hbY HXF HYN HRES b0 b1 b2 t0 t1 HADD
          by_cases her : er = 0
          · subst her
            go_wp2_with fail
            go_roundw
            case rel => exact HREL.out.1 rfl
            case measure => simp only [toM]; omega
          · have her2 : (er == 0) = false := by simpa using her
            go_wp2_with fail
            go_roundw
            case rel => exact HREL.out.2 her
            case measure => simp only [toM]; omega
        · have q0' : (q == 0) = false := by simpa using q0
          by_cases q1 : q = 1
          · subst q1
            go_upto_if 126 with (first | (go_at_call 38; refine (HCOR.out).mono ?_; rintro z11 wf ⟨hxf, m', h', A', n', c', er, rfl, hres⟩; obtain ⟨y0, y1, y2, hyn⟩ := HGO.out wf hxf; have g0 := cell_of hyn (i := 0) (u := y0) rfl; have g1 := cell_of hyn (i := 1) (u := y1) rfl; have g2 := cell_of hyn (i := 2) (u := y2) rfl; have g3 := frozen_of hyn 0; have g4 := frozen_of hyn 1; have g5 := frozen_of hyn 2; have HXF := Lib.hid hxf; have HYN := Lib.hid hyn; have HRES := Lib.hid hres; clear hxf hyn hres))
            obtain ⟨Y, hY⟩ : ∃ Y, ((wf.setCell ⟨zn, 0, none⟩ (.int .i64 m')).setCell ⟨zn, 1, none⟩ (.int .i64 h')).setCell ⟨zn, 2, none⟩ (.slice A' n' c') = Y := ⟨_, rfl⟩
            have hy := kw_y (HMV14.out.trans (Mv.of_ext HXF.out)) HYN.out HZN.out.1 (.int .i64 m') (.int .i64 h') (.slice A' n' c')
            rw [hY] at hy ⊢
            have hbY := (hy.k zb (by have := HZN.out; omega)).trans ((HXF.out.block _ (lt_of_block HB14.out)).trans HB14.out)
            have HREL := Lib.hid (kw_rel hy HZN.out HXF.out hbY HKB.out HMS.out.1 HMS.out.2 HNC.out HROW14.out HRES.out (by omega))
            have g0 := cell_of hy.n (i := 0) (u := .int .i64 m') rfl
            have g1 := cell_of hy.n (i := 1) (u := .int .i64 h') rfl
            have g2 := cell_of hy.n (i := 2) (u := .slice A' n' c') rfl
            have f0 := cell_of hbY (i := 0) (u := .int .i64 b.ms) rfl
            have f1 := cell_of hbY (i := 1) (u := .int .i64 b.ht) rfl
            have f2 := cell_of hbY (i := 2) (u := .slice As ns cs) rfl
            have f3 := frozen_of hbY 0
            have f4 := frozen_of hbY 1
            have f5 := frozen_of hbY 2
            clear hY hy hbY HXF HYN HRES b0 b1 b2 t0 t1 HCOR
            by_cases her : er = 0
            · subst her
              go_wp2_with fail
              go_roundw
              case rel => exact HREL.out.1 rfl
              case measure => simp only [toM]; omega
            · have her2 : (er == 0) = false := by simpa using her
              go_wp2_with fail
              go_roundw
              case rel => exact HREL.out.2 her
              case measure => simp only [toM]; omega
          · have q1' : (q == 1) = false := by simpa using q1
            by_cases q2 : q = 2
            · subst q2
              go_upto_if 126 with (first | (go_at_call 51; refine (HSTR.out).mono ?_; rintro z11 wf ⟨hxf, m', h', A', n', c', er, rfl, hres⟩; obtain ⟨y0, y1, y2, hyn⟩ := HGO.out wf hxf; have g0 := cell_of hyn (i := 0) (u := y0) rfl; have g1 := cell_of hyn (i := 1) (u := y1) rfl; have g2 := cell_of hyn (i := 2) (u := y2) rfl; have g3 := frozen_of hyn 0; have g4 := frozen_of hyn 1; have g5 := frozen_of hyn 2; have HXF := Lib.hid hxf; have HYN := Lib.hid hyn; have HRES := Lib.hid hres; clear hxf hyn hres))
              obtain ⟨Y, hY⟩ : ∃ Y, ((wf.setCell ⟨zn, 0, none⟩ (.int .i64 m')).setCell ⟨zn, 1, none⟩ (.int .i64 h')).setCell ⟨zn, 2, none⟩ (.slice A' n' c') = Y := ⟨_, rfl⟩
              have hy := kw_y (HMV14.out.trans (Mv.of_ext HXF.out)) HYN.out HZN.out.1 (.int .i64 m') (.int .i64 h') (.slice A' n' c')
              rw [hY] at hy ⊢
              have hbY := (hy.k zb (by have := HZN.out; omega)).trans ((HXF.out.block _ (lt_of_block HB14.out)).trans HB14.out)
              have HREL := Lib.hid (kw_rel hy HZN.out HXF.out hbY HKB.out HMS.out.1 HMS.out.2 HNC.out HROW14.out HRES.out (by omega))
              have g0 := cell_of hy.n (i := 0) (u := .int .i64 m') rfl
              have g1 := cell_of hy.n (i := 1) (u := .int .i64 h') rfl
              have g2 := cell_of hy.n (i := 2) (u := .slice A' n' c') rfl
              have f0 := cell_of hbY (i := 0) (u := .int .i64 b.ms) rfl
              have f1 := cell_of hbY (i := 1) (u := .int .i64 b.ht) rfl
              have f2 := cell_of hbY (i := 2) (u := .slice As ns cs) rfl
              have f3 := frozen_of hbY 0
              have f4 := frozen_of hbY 1
              have f5 := frozen_of hbY 2
              clear hY hy hbY HXF HYN HRES b0 b1 b2 t0 t1 HSTR
              by_cases her : er = 0
              · subst her
                go_wp2_with fail
                go_roundw
                case rel => exact HREL.out.1 rfl
                case measure => simp only [toM]; omega
              · have her2 : (er == 0) = false := by simpa using her
                go_wp2_with fail
                go_roundw
                case rel => exact HREL.out.2 her
                case measure => simp only [toM]; omega
            · have q2' : (q == 2) = false := by simpa using q2
              go_upto_if 126 with (first | (go_at_call 35; refine (HFRZ.out).mono ?_; rintro z11 wf ⟨hxf, g', rfl, hres⟩; obtain ⟨y0, y1, y2, hyn⟩ := HGO.out wf hxf; have g0 := cell_of hyn (i := 0) (u := y0) rfl; have g1 := cell_of hyn (i := 1) (u := y1) rfl; have g2 := cell_of hyn (i := 2) (u := y2) rfl; have g3 := frozen_of hyn 0; have g4 := frozen_of hyn 1; have g5 := frozen_of hyn 2; have HXF := Lib.hid hxf; have HYN := Lib.hid hyn; have HRES := Lib.hid hres; clear hxf hyn hres))
              obtain ⟨Y, hY⟩ : ∃ Y, ((wf.setCell ⟨zn, 0, none⟩ (.int .i64 b.ms)).setCell ⟨zn, 1, none⟩ (.int .i64 b.ht)).setCell ⟨zn, 2, none⟩ (.slice (some ⟨g', 0, none⟩) ns ns) = Y := ⟨_, rfl⟩
              have hy := kw_y (HMV14.out.trans (Mv.of_ext HXF.out)) HYN.out HZN.out.1 (.int .i64 b.ms) (.int .i64 b.ht) (.slice (some ⟨g', 0, none⟩) ns ns)
              rw [hY] at hy ⊢
              have hbY := (hy.k zb (by have := HZN.out; omega)).trans ((HXF.out.block _ (lt_of_block HB14.out)).trans HB14.out)
              have HREL := Lib.hid (kw_rel hy HZN.out HXF.out hbY HKB.out HMS.out.1 HMS.out.2 HNC.out HROW14.out (er := 0) (.inr ⟨rfl, rfl, rfl, frzP B, HKB.out.frz, HMS.out.1, HMS.out.2, Nat.le_refl _, HRES.out⟩) (by omega))
              have g0 := cell_of hy.n (i := 0) (u := .int .i64 b.ms) rfl
              have g1 := cell_of hy.n (i := 1) (u := .int .i64 b.ht) rfl
              have g2 := cell_of hy.n (i := 2) (u := .slice (some ⟨g', 0, none⟩) ns ns) rfl
              have f0 := cell_of hbY (i := 0) (u := .int .i64 b.ms) rfl
              have f1 := cell_of hbY (i := 1) (u := .int .i64 b.ht) rfl
              have f2 := cell_of hbY (i := 2) (u := .slice As ns cs) rfl
              have f3 := frozen_of hbY 0
              have f4 := frozen_of hbY 1
              have f5 := frozen_of hbY 2
              clear hY hy hbY HXF HYN HRES b0 b1 b2 t0 t1 HFRZ
              go_wp2_with fail
              go_roundw
              case rel => exact HREL.out.1 rfl
              case measure => simp only [toM]; omega
end Go.Proofs.YtdbnddmncbjobaaGreatDoor
