/- The law CiteFind: walked (printed by genvr.py). -/
import Derived.Test.YtdbnddmncbjobaaGreatDoorMj
import Derived.Test.YtdbnddmncbjobaaGreatDoorMl
import Derived.Test.YtdbnddmncbjobaaGreatDoorMk
namespace Go.Proofs.YtdbnddmncbjobaaGreatDoor
open Go Go.RowKit

/-- The page and the line that a citation leads to, zero where there are none. -/
def citU (b : Bk) (n s line : Int) : Pg × Ln × Bool := match citP b n s line with | some (p, x) => (p, x, true) | none => (⟨0, 0, 0, 0, [], []⟩, ⟨0, 0, [], []⟩, false)
structure FuR (W : World) (P : Nat → Prop) (p : Pg) (x : Ln) (A7 : Option Addr) (n7 : Nat) (A8 : Option Addr) (n8 : Nat) (A1 : Option Addr) (n1 c1 : Nat) (A2 : Option Addr) (n2 c2 : Nat) : Prop where
  r7 : kLn.row W P A7 n7 p.body
  r8 : kLn.row W P A8 n8 p.nts
  x : kLn.rep W P x [.int .i64 x.fr, .int .i64 x.un, .slice A1 n1 c1, .slice A2 n2 c2]
theorem FuR.mono {W : World} {P Q : Nat → Prop} {p : Pg} {x : Ln} {A7 : Option Addr} {n7 : Nat} {A8 : Option Addr} {n8 : Nat} {A1 : Option Addr} {n1 c1 : Nat} {A2 : Option Addr} {n2 c2 : Nat} (h : FuR W P p x A7 n7 A8 n8 A1 n1 c1 A2 n2 c2) (hq : ∀ j, P j → j < W.heap.size → Q j) : FuR W Q p x A7 n7 A8 n8 A1 n1 c1 A2 n2 c2 :=
  ⟨Lay.row_mono h.r7 hq, Lay.row_mono h.r8 hq, kLn.mono h.x hq⟩
theorem FuR.keep {W W' : World} {P : Nat → Prop} {p : Pg} {x : Ln} {A7 : Option Addr} {n7 : Nat} {A8 : Option Addr} {n8 : Nat} {A1 : Option Addr} {n1 c1 : Nat} {A2 : Option Addr} {n2 c2 : Nat} (h : FuR W P p x A7 n7 A8 n8 A1 n1 c1 A2 n2 c2) (hs : W.heap.size ≤ W'.heap.size) (hk : ∀ j, P j → j < W.heap.size → W'.heap[j]? = W.heap[j]?) : FuR W' P p x A7 n7 A8 n8 A1 n1 c1 A2 n2 c2 :=
  ⟨Lay.row_keep h.r7 hs hk, Lay.row_keep h.r8 hs hk, kLn.keep h.x hs hk⟩
theorem FuR.ext {W W' : World} {P : Nat → Prop} {p : Pg} {x : Ln} {A7 : Option Addr} {n7 : Nat} {A8 : Option Addr} {n8 : Nat} {A1 : Option Addr} {n1 c1 : Nat} {A2 : Option Addr} {n2 c2 : Nat} (h : FuR W P p x A7 n7 A8 n8 A1 n1 c1 A2 n2 c2) (hx : Ext W W') : FuR W' P p x A7 n7 A8 n8 A1 n1 c1 A2 n2 c2 := h.keep hx.lt fun j _ hj => hx.block j hj
theorem find_u {w w' : World} {b : Bk} {n s line : Int} {p : Pg} {x : Ln} {ok : Bool} {z : Ending} (h : citU b n s line = (p, x, ok)) (g : FindPost w b n s line z w') :
    ∃ (A7 : Option Addr) (n7 c7 : Nat) (A8 : Option Addr) (n8 c8 : Nat) (A1 : Option Addr) (n1 c1 : Nat) (A2 : Option Addr) (n2 c2 : Nat),
    z = .returned (.tuple #[.agg #[.int .i64 p.num, .int .i64 p.suf, .int .i64 p.ent, .int .i64 p.ver, .slice A7 n7 c7, .slice A8 n8 c8], .agg #[.int .i64 x.fr, .int .i64 x.un, .slice A1 n1 c1, .slice A2 n2 c2], .bool ok]) ∧ Ext w w' ∧ FuR w' (fun j => w.heap.size ≤ j) p x A7 n7 A8 n8 A1 n1 c1 A2 n2 c2 := by
  obtain ⟨hx, ⟨h1, rfl⟩ | ⟨p', x', A7, n7, c7, A8, n8, c8, A1, n1, c1, A2, n2, c2, h1, rfl, _, _, h3, h4, h5, h6, h7, h8⟩⟩ := g
  · unfold citU at h
    rw [h1] at h
    simp only [Prod.mk.injEq] at h
    obtain ⟨rfl, rfl, rfl⟩ := h
    exact ⟨none, 0, 0, none, 0, 0, none, 0, 0, none, 0, 0, rfl, hx, Lay.row_nil _ _ _, Lay.row_nil _ _ _, kLn_rep.2 ⟨none, 0, 0, none, 0, 0, rfl, Nat.le_refl _, Nat.le_refl _, Lay.row_nil _ _ _, Lay.row_nil _ _ _⟩⟩
  · unfold citU at h
    rw [h1] at h
    simp only [Prod.mk.injEq] at h
    obtain ⟨rfl, rfl, rfl⟩ := h
    exact ⟨A7, n7, c7, A8, n8, c8, A1, n1, c1, A2, n2, c2, rfl, hx, h3, h4, kLn_rep.2 ⟨A1, n1, c1, A2, n2, c2, rfl, h7, h8, h5, h6⟩⟩
/-- What is found is not long. -/
structure FuB (p : Pg) (x : Ln) : Prop where
  b : p.body.length ≤ 1000
  n : p.nts.length ≤ 1000
  lb : ∀ l ∈ p.body, l.gaps.length ≤ 1000000 ∧ l.nts.length ≤ 1000000
  ln : ∀ l ∈ p.nts, l.gaps.length ≤ 1000000 ∧ l.nts.length ≤ 1000000
  x : x.gaps.length ≤ 1000000 ∧ x.nts.length ≤ 1000000
theorem citU_bd {b : Bk} {N V : Nat} (hb : OkB b N V) (hi : BkI b) {n s line : Int} {p : Pg} {x : Ln} {ok : Bool} (h : citU b n s line = (p, x, ok)) : FuB p x := by
  unfold citU at h
  cases hc : citP b n s line with
  | none =>
    rw [hc] at h
    simp only [Prod.mk.injEq] at h
    obtain ⟨rfl, rfl, _⟩ := h
    exact ⟨by simp, by simp, fun l hl => by simp at hl, fun l hl => by simp at hl, by simp⟩
  | some y =>
    obtain ⟨p', x'⟩ := y
    rw [hc] at h
    simp only [Prod.mk.injEq] at h
    obtain ⟨rfl, rfl, _⟩ := h
    obtain ⟨hp, hx⟩ := cit_mem hc
    have h1 := bkI_ln hi p' hp
    have h2 := hb.lns p' hp
    exact ⟨h1.1, h1.2, h2.1, h2.2, hx.elim (h2.1 x') (h2.2 x')⟩
theorem lineAt_bd (wd : Int) : ∀ (l : List Ln) (k i : Nat), lineAt wd l k = some i → i ≤ k + l.length := by
  intro l
  induction l with
  | nil => intro k i h; cases h
  | cons x r ih =>
    intro k i h
    rw [lineAt] at h
    split at h
    · injection h with h; simp; omega
    · have := ih _ _ h; simp; omega
theorem whereG_bd (e v wd : Int) : ∀ (L : List Pg), (∀ p ∈ L, p.body.length ≤ 1000 ∧ p.nts.length ≤ 1000) → ∀ (n s : Int) (i : Nat), whereG e v wd L = some (n, s, i) → i ≤ 2000 := by
  intro L
  induction L with
  | nil => intro _ n s i h; cases h
  | cons p r ih =>
    intro hb n s i h
    rw [whereG] at h
    split at h
    · exact ih (fun q hq => hb q (by simp [hq])) n s i h
    · split at h
      · next k hk =>
        injection h with h
        simp only [Prod.mk.injEq] at h
        have h1 := lineAt_bd _ _ _ _ hk
        have h2 := hb p (by simp)
        rw [List.length_append] at h1
        omega
      · exact ih (fun q hq => hb q (by simp [hq])) n s i h
theorem ofT_bd {b : Bk} (hi : BkI b) {br e v wd c0 c1 c2 c3 : Int} {ok : Bool} (h : ofT (ofP b br e v wd) br = (c0, c1, c2, c3, ok)) : 0 ≤ c3 ∧ c3 ≤ 2000 := by
  cases ho : ofP b br e v wd with
  | none => rw [ho] at h; simp only [ofT, Prod.mk.injEq] at h; omega
  | some y =>
    obtain ⟨n, s, i⟩ := y
    rw [ho] at h
    simp only [ofT, Prod.mk.injEq] at h
    unfold ofP at ho
    split at ho
    · cases ho
    · have := whereG_bd e v wd _ (bkI_ln hi) n s i ho
      omega
/-- A page and a line in boxes. -/
def FdB (wr : World) (p : Pg) (x : Ln) (ok : Bool) (s22 s23 s24 : Value) (wx : World) : Prop :=
  ∃ (zp zl : Nat) (A7 : Option Addr) (n7 c7 : Nat) (A8 : Option Addr) (n8 c8 : Nat) (A1 : Option Addr) (n1 c1 : Nat) (A2 : Option Addr) (n2 c2 : Nat), s22 = .pointer (some ⟨zp, 0, none⟩) ∧ s23 = .pointer (some ⟨zl, 0, none⟩) ∧ s24 = .bool ok ∧
    wx.heap[zp]? = some (.cells #[.int .i64 p.num, .int .i64 p.suf, .int .i64 p.ent, .int .i64 p.ver, .slice A7 n7 c7, .slice A8 n8 c8] 84 (0, 0)) ∧ wx.heap[zl]? = some (.cells #[.int .i64 x.fr, .int .i64 x.un, .slice A1 n1 c1, .slice A2 n2 c2] 86 (0, 0)) ∧
    FuR wx (fun j => wr.heap.size ≤ j) p x A7 n7 A8 n8 A1 n1 c1 A2 n2 c2 ∧ Ext wr wx
theorem fd_end {wr wG V : World} {XS zp zl : Nat} {p : Pg} {x : Ln} {ok : Bool} {A7 : Option Addr} {n7 c7 : Nat} {A8 : Option Addr} {n8 c8 : Nat} {A1 : Option Addr} {n1 c1 : Nat} {A2 : Option Addr} {n2 c2 : Nat} (hq : FuR wG (fun j => XS ≤ j) p x A7 n7 A8 n8 A1 n1 c1 A2 n2 c2) (hX : wr.heap.size ≤ XS) (hGV : Ext wG V) (hx : Ext wr V)
    (h2 : V.heap[zp]? = some (.cells #[.int .i64 0, .int .i64 0, .int .i64 0, .int .i64 0, .slice none 0 0, .slice none 0 0] 84 (0, 0))) (h3 : V.heap[zl]? = some (.cells #[.int .i64 0, .int .i64 0, .slice none 0 0, .slice none 0 0] 86 (0, 0))) (hne : zp ≠ zl) (hp : wr.heap.size ≤ zp ∧ (zp < XS ∨ wG.heap.size ≤ zp)) (hl : wr.heap.size ≤ zl ∧ (zl < XS ∨ wG.heap.size ≤ zl)) :
    FdB wr p x ok (.pointer (some ⟨zp, 0, none⟩)) (.pointer (some ⟨zl, 0, none⟩)) (.bool ok) ((((((((((V.setCell ⟨zp, 0, none⟩ (.int .i64 p.num)).setCell ⟨zp, 1, none⟩ (.int .i64 p.suf)).setCell ⟨zp, 2, none⟩ (.int .i64 p.ent)).setCell ⟨zp, 3, none⟩ (.int .i64 p.ver)).setCell ⟨zp, 4, none⟩ (.slice A7 n7 c7)).setCell ⟨zp, 5, none⟩ (.slice A8 n8 c8)).setCell ⟨zl, 0, none⟩ (.int .i64 x.fr)).setCell ⟨zl, 1, none⟩ (.int .i64 x.un)).setCell ⟨zl, 2, none⟩ (.slice A1 n1 c1)).setCell ⟨zl, 3, none⟩ (.slice A2 n2 c2)) := by
  have hs := st10 hne h2 h3 (.int .i64 p.num) (.int .i64 p.suf) (.int .i64 p.ent) (.int .i64 p.ver) (.slice A7 n7 c7) (.slice A8 n8 c8) (.int .i64 x.fr) (.int .i64 x.un) (.slice A1 n1 c1) (.slice A2 n2 c2)
  refine ⟨zp, zl, A7, n7, c7, A8, n8, c8, A1, n1, c1, A2, n2, c2, rfl, rfl, rfl, hs.h2, hs.h3, ?_, hs.ext wr hp.1 hl.1 hx⟩
  have h4 : FuR V (fun j => wr.heap.size ≤ j ∧ j ≠ zp ∧ j ≠ zl) p x A7 n7 A8 n8 A1 n1 c1 A2 n2 c2 := (hq.mono fun j hj hl' => ⟨by omega, by omega, by omega⟩).ext hGV
  exact (h4.keep (Nat.le_of_eq hs.size.symm) fun j hj _ => hs.keep j hj.2.1 hj.2.2).mono fun j hj _ => hj.1
theorem set6_heap {W : World} {z y : Nat} {cs : Array Value} {T : TypeId} (h : W.heap[y]? = some (.cells cs T (0, 0))) (hne : z ≠ y) (u0 u1 u2 u3 u4 u5 : Value) : ((((((W.setCell ⟨z, 0, none⟩ u0).setCell ⟨z, 1, none⟩ u1).setCell ⟨z, 2, none⟩ u2).setCell ⟨z, 3, none⟩ u3).setCell ⟨z, 4, none⟩ u4).setCell ⟨z, 5, none⟩ u5).heap[y]? = some (.cells cs T (0, 0)) := by
  have hy : y ≠ z := fun e => hne e.symm
  rw [heap_setCell_other _ ⟨z, 5, none⟩ y _ hy, heap_setCell_other _ ⟨z, 4, none⟩ y _ hy, heap_setCell_other _ ⟨z, 3, none⟩ y _ hy, heap_setCell_other _ ⟨z, 2, none⟩ y _ hy, heap_setCell_other _ ⟨z, 1, none⟩ y _ hy, heap_setCell_other _ ⟨z, 0, none⟩ y _ hy]
  exact h
theorem FdB.ext {wr wx : World} {p : Pg} {x : Ln} {ok : Bool} {s22 s23 s24 : Value} (h : FdB wr p x ok s22 s23 s24 wx) : Ext wr wx := by
  obtain ⟨_, _, _, _, _, _, _, _, _, _, _, _, _, _, _, _, _, _, _, _, hx⟩ := h
  exact hx
theorem row_oneV {β : Type} {k : Lay β} {W : World} {P : Nat → Prop} {b : Nat} {cs : Array Value} {T : TypeId} {x : β} (h : W.heap[b]? = some (.cells cs T (0, 0))) (hr : k.rep W P x cs.toList) (hp : P b) : k.row W P (some ⟨b, 0, none⟩) 1 [x] := by
  obtain ⟨d0, hd0⟩ : ∃ d0 : Cs k.sz, ccf d0 = cs.toList := ⟨⟨cs.toList, k.len hr, k.one hr⟩, rfl⟩
  refine ⟨[d0], rfl, rfl, ⟨rfl, fun _ => ⟨b, 0, rfl, lt_of_block h, fun i d hd j u hu => ?_⟩⟩, fun a ha => ?_, fun i d y hd hy => ?_⟩
  · cases i with
    | zero =>
      injection hd with hd
      subst hd
      rw [hd0] at hu
      rw [Nat.zero_mul, Nat.zero_add]
      exact cell_of h (by simpa using hu)
    | succ i => cases hd
  · injection ha with ha; subst ha; exact ⟨hp, lt_of_block h⟩
  · cases i with
    | zero =>
      injection hd with hd
      injection hy with hy
      subst hd hy
      show k.rep W P _ (ccf d0)
      rw [hd0]; exact hr
    | succ i => cases hd
theorem find_at (P : Nat → Prop) (w : World) (b : Bk) (br n s line : Int) (A : Option Addr) (N c : Nat) (hb : BkI b) (hr : kSe.row w P A N b.secs) (hL : EnvW w) (hl0 : -9223372036854775808 ≤ line) (hl1 : line ≤ 9223372036854775807) :
    Calls Tryz.prog 44 #[.agg #[.int .i64 b.ms, .int .i64 b.ht, .slice A N c], .agg #[.int .i64 br, .int .i64 n, .int .i64 s, .int .i64 line]] w (FindPost w b n s line) := by
  by_cases h : line = -9223372036854775808
  · subst h; exact find_min P w b br n s A N c hb hr hL
  · exact find_cite P w b br n s line A N c hb hr hL (by omega) hl1
def VrR (w5 : World) (s21 : Value) (w' : World) : Prop := ∃ i : Nat, i ≤ 4 ∧ s21 = .int .i64 i ∧ Ext w5 w'
set_option maxHeartbeats 16000000 in
set_option maxRecDepth 100000 in
theorem find_law (A : Option Addr) (c : Nat) (l : List Int) (nn : Int) (k0 k1 k2 k3 a v wd : Int) (w : World) (hL : EnvW w) (hLV : ∀ X, Ext w X → Calls Tryz.prog 47 #[] X (fun e X' => e = .returned (.bool true) ∧ Ext X X')) (hl : IL w A c l) (hll : l.length ≤ 9223372036854775807)
    (hnn : -9223372036854775808 ≤ nn ∧ nn ≤ 9223372036854775807) (hk3 : -9223372036854775808 ≤ k3 ∧ k3 ≤ 9223372036854775807) (ha : -9223372036854775808 ≤ a ∧ a ≤ 9223372036854775807) (hv : -9223372036854775808 ≤ v ∧ v ≤ 9223372036854775807) (hw : -9223372036854775808 ≤ wd ∧ wd ≤ 9223372036854775807) :
    Calls Tryz.prog 10 #[.slice A l.length c, .int .i64 nn, .agg #[.int .i64 k0, .int .i64 k1, .int .i64 k2, .int .i64 k3], .int .i64 a, .int .i64 v, .int .i64 wd] w (fun e w' => e = .returned (.bool true) ∧ Ext w w') := by
  have HBK := Lib.hid (fun X (hX : Ext w X) => gbook_any A c l X (hl.ext hX) hll)
  have HLV := Lib.hid hLV
  have HL := Lib.hid hL
  have HPL := Lib.hid (fun (X : World) (P : Nat → Prop) (b : Bk) (A : Option Addr) (N c : Nat) hb hr => place_any P X b a v wd A N c hb hr ha hv hw)
  obtain ⟨ar, har⟩ : ∃ ar, arnd nn 9 = ar := ⟨_, rfl⟩
  have harb := arnd_in nn 9 (by omega)
  have HAR := Lib.hid (fun X => (show Calls Tryz.prog 42 #[.int .i64 nn, .int .i64 9] X (fun e w' => e = .returned (.int .i64 ar) ∧ X = w') from by rw [← har]; exact around_fn nn 9 X hnn.1 hnn.2 (by omega) (by omega)))
  rw [har] at harb
  obtain ⟨harb1, harb2⟩ := harb
  have HCI := Lib.hid (fun X => cite_any nn X hnn.1 hnn.2)
  have hcb := citB_cases (citOf_ok nn)
  obtain ⟨ct, hct⟩ : ∃ ct, citOf nn = ct := ⟨_, rfl⟩
  have HCT := Lib.hid hct
  rw [hct] at hcb
  obtain ⟨g0, g1, g2, g3⟩ := ct
  simp only at hcb
  have HK3 := Lib.hid (And.intro hk3 (show -9223372036854775808 ≤ g3 ∧ g3 ≤ 9223372036854775807 by omega))
  obtain ⟨m, hm⟩ : ∃ m, l.length = m := ⟨_, rfl⟩
  rw [hm] at HBK ⊢
  clear hL hLV hl hll ha hv hw hm har hnn hk3 hcb hct
  go_enter Tryz.func10, Tryz.ntmps10
  go_upto_region 1 with (fail)
  obtain ⟨Wa, hWa⟩ : ∃ Wa, w.alloc (.cells #[.int .i64 k0, .int .i64 k1, .int .i64 k2, .int .i64 k3] 69) = Wa := ⟨_, rfl⟩
  obtain ⟨z8, hz8⟩ : ∃ z, w.heap.size = z := ⟨_, rfl⟩
  have hxa : Ext w Wa := by rw [← hWa]; exact (Ext.refl w).alloc _
  have hK8 : Wa.heap[z8]? = some (.cells #[.int .i64 k0, .int .i64 k1, .int .i64 k2, .int .i64 k3] 69 (0, 0)) := by rw [← hWa, ← hz8]; exact heap_alloc_at _ _ _ _ rfl
  rw [hWa, hz8]
  have HXA := Lib.hid hxa
  have HK8 := Lib.hid hK8
  clear hWa hz8 hxa hK8
  go_upto_region 2 with (first | (go_at_call 39; refine (HBK.out _ HXA.out).mono ?_; rintro e w1 ⟨b, A1, n, c1, rfl, hok, hnc, hr, hx⟩))
  have hx1 : Ext Wa (w1.alloc (.cells #[.int .i64 b.ms, .int .i64 b.ht, .slice A1 n c1] 27)) := hx.alloc _
  have hr1 := Lay.row_ext hr ((Ext.refl w1).alloc (.cells #[.int .i64 b.ms, .int .i64 b.ht, .slice A1 n c1] 27))
  have hB := heap_alloc_new w1 (.cells #[.int .i64 b.ms, .int .i64 b.ht, .slice A1 n c1] 27)
  obtain ⟨w2, hw2⟩ : ∃ w2, w1.alloc (.cells #[.int .i64 b.ms, .int .i64 b.ht, .slice A1 n c1] 27) = w2 := ⟨_, rfl⟩
  obtain ⟨zb, hzb⟩ : ∃ zb, w1.heap.size = zb := ⟨_, rfl⟩
  rw [hw2] at hx1 hr1 hB ⊢
  rw [hzb] at hB ⊢
  have HB := Lib.hid hB
  have HX := Lib.hid hx1
  have HR := Lib.hid hr1
  have HOK := Lib.hid hok.okB
  have HBI := Lib.hid (hok.okB.bkI (by omega) (by omega) (by omega))
  have b0 := cell_of hB (i := 0) (u := .int .i64 b.ms) rfl
  have b1 := cell_of hB (i := 1) (u := .int .i64 b.ht) rfl
  have b2 := cell_of hB (i := 2) (u := .slice A1 n c1) rfl
  clear hx hr hok hnc hx1 hr1 hB hw2 hzb HBK
  have HP2 := Lib.hid (HPL.out w2 _ b A1 n c1 (HOK.out.big (by omega) (by omega)) HR.out)
  clear HPL
  go_upto_region 3 with (first | (go_at_call 40; refine (HP2.out).mono ?_; rintro z w3 ⟨e, x, y, rfl, hx⟩))
  have HX3 := Lib.hid hx
  clear b0 b1 b2 HP2
  have HBC := Lib.hid (fun X (hX : Ext w3 X) => (show X.cell? ⟨zb, 0, none⟩ = some (.int .i64 b.ms) ∧ X.cell? ⟨zb, 1, none⟩ = some (.int .i64 b.ht) ∧ X.cell? ⟨zb, 2, none⟩ = some (.slice A1 n c1) from
    have h9 := ((HX3.out.trans hX).block _ (lt_of_block HB.out)).trans HB.out
    ⟨cell_of h9 (i := 0) rfl, cell_of h9 (i := 1) rfl, cell_of h9 (i := 2) rfl⟩))
  obtain ⟨b0, b1, b2⟩ := HBC.out _ (Ext.refl _)
  obtain ⟨⟨c0, c1', c2, c3, ok0⟩, hof⟩ : ∃ t, ofT (ofP b 0 e x y) 0 = t := ⟨_, rfl⟩
  have hc3 := ofT_bd HBI.out hof
  obtain ⟨hc3a, hc3b⟩ := hc3
  have HO3 := Lib.hid ((rof_any _ w3 b 0 e x y A1 n c1 HBI.out HOK.out.ent (Lay.row_ext HR.out hx) (bkI_ln HBI.out)).mono fun z w' h => ofG_at hof h)
  clear hx hof
  go_upto_region 4 with (first | (go_at_call 41; refine (HO3.out).mono ?_; rintro z w4 ⟨rfl, hx4⟩))
  have HX4 := Lib.hid hx4
  clear b0 b1 b2 hx4
  obtain ⟨Wb, hWb⟩ : ∃ Wb, w4.alloc (.cells #[.int .i64 c0, .int .i64 c1', .int .i64 c2, .int .i64 c3] 69) = Wb := ⟨_, rfl⟩
  obtain ⟨zg, hzg⟩ : ∃ z, w4.heap.size = z := ⟨_, rfl⟩
  have hxb : Ext w4 Wb := by rw [← hWb]; exact (Ext.refl w4).alloc _
  have hG : Wb.heap[zg]? = some (.cells #[.int .i64 c0, .int .i64 c1', .int .i64 c2, .int .i64 c3] 69 (0, 0)) := by rw [← hWb, ← hzg]; exact heap_alloc_at _ _ _ _ rfl
  rw [hWb, hzg]
  have q0 := cell_of hG (i := 0) (u := .int .i64 c0) rfl
  have q1 := cell_of hG (i := 1) (u := .int .i64 c1') rfl
  have q2 := cell_of hG (i := 2) (u := .int .i64 c2) rfl
  have q3 := cell_of hG (i := 3) (u := .int .i64 c3) rfl
  have HG := Lib.hid hG
  have HXB := Lib.hid (HX4.out.trans hxb)
  clear hWb hzg hxb hG
  go_upto_region 5 with (fail)
  obtain ⟨Wc, hWc⟩ : ∃ Wc, Wb.alloc (.cells #[.int .i64 c0, .int .i64 c1', .int .i64 c2, .int .i64 c3] 69) = Wc := ⟨_, rfl⟩
  obtain ⟨zf, hzf⟩ : ∃ z, Wb.heap.size = z := ⟨_, rfl⟩
  have hxc : Ext Wb Wc := by rw [← hWc]; exact (Ext.refl Wb).alloc _
  have hF : Wc.heap[zf]? = some (.cells #[.int .i64 c0, .int .i64 c1', .int .i64 c2, .int .i64 c3] 69 (0, 0)) := by rw [← hWc, ← hzf]; exact heap_alloc_at _ _ _ _ rfl
  rw [hWc, hzf]
  have hgf : zg < zf := by rw [← hzf]; exact lt_of_block HG.out
  have hG := (hxc.block _ (lt_of_block HG.out)).trans HG.out
  have HF := Lib.hid hF
  have HG2 := Lib.hid hG
  have HXC := Lib.hid (HXB.out.trans hxc)
  have hfw : Wb.heap.size ≤ zf := Nat.le_of_eq hzf
  have HFW := Lib.hid (show w3.heap.size ≤ zf from Nat.le_trans HXB.out.lt hfw)
  have i1 : IntKind.i64.wrap (c3 + ar) = c3 + ar := IntWalk.i64_in _ (by omega)
  have i2 : IntKind.i64.wrap (c3 + ar - 4) = c3 + ar - 4 := IntWalk.i64_in _ (by omega)
  clear hWc hzf hxc hF hG q0 q1 q2 q3 hfw
  have hS0 : (fun X : World => X.cell? ⟨zg, 3, none⟩ = some (.int .i64 c3)) Wc.drew := cell_of HG2.out (i := 3) rfl
  refine wp_region_E (fun X : World => X.cell? ⟨zg, 3, none⟩ = some (.int .i64 c3)) (fun _ => True) (fun i => i == 7) (by kernel_rfl) ?_
  refine wpE_takeS (i := 0) (d := some 48) (v := .pointer (some ⟨zg, 3, none⟩)) rfl rfl (by kernel_rfl) (by kernel_rfl) (by kernel_rfl) (by kernel_rfl) (fun _ _ _ h => h) (by rfl) ?hye1 hS0 trivial ?goe1
  case hye1 =>
    intro w9 hT9
    clear hT9; go_simp
  (try simp only [Act.put, List.setIfInBounds_toArray, List.set_cons_zero, List.set_cons_succ])
  refine wpE_takeS (i := 1) (d := some 49) (v := .int .i64 c3) rfl rfl (by kernel_rfl) (by kernel_rfl) (by kernel_rfl) (by kernel_rfl) (fun _ _ _ h => h) (by rfl) ?hye2 hS0 trivial ?goe2
  case hye2 =>
    intro w9 hT9
    have y0 : w9.cell? ⟨zg, 3, none⟩ = some (.int .i64 c3) := hT9; go_simp
  (try simp only [Act.put, List.setIfInBounds_toArray, List.set_cons_zero, List.set_cons_succ])
  refine wpE_takeS (i := 2) (d := some 50) (v := .int .i64 nn) rfl rfl (by kernel_rfl) (by kernel_rfl) (by kernel_rfl) (by kernel_rfl) (fun _ _ _ h => h) (by rfl) ?hye3 hS0 trivial ?goe3
  case hye3 =>
    intro w9 hT9
    clear hT9; go_simp
  (try simp only [Act.put, List.setIfInBounds_toArray, List.set_cons_zero, List.set_cons_succ])
  refine wpE_all (rs := [3]) (by kernel_rfl) (by simp) ?_
  refine AllE.cons rfl (fun K hK => ?_) AllE.nil
  simp only [List.getElem_toArray, List.getElem_cons_succ, List.getElem_cons_zero]
  go_simp
  go_at_call 42
  refine (HAR.out _).mono ?_
  rintro z9 wG ⟨rfl, rfl⟩
  simp only []
  refine hK.out _ _ ⟨fun _ => hS0, trivial⟩ (fun _ => ?_)
  clear hK K
  have hS0 := hS0
  (try simp only [Act.put, List.setIfInBounds_toArray, List.set_cons_zero, List.set_cons_succ])
  refine wpE_takeS (i := 4) (d := some 52) (v := .int .i64 (c3 + ar)) rfl rfl (by kernel_rfl) (by kernel_rfl) (by kernel_rfl) (by kernel_rfl) (fun _ _ _ h => h) (by rfl) ?hye4 hS0 trivial ?goe4
  case hye4 =>
    intro w9 hT9
    clear hT9; go_simp
  (try simp only [Act.put, List.setIfInBounds_toArray, List.set_cons_zero, List.set_cons_succ])
  refine wpE_takeS (i := 5) (d := some 53) (v := .int .i64 (c3 + ar - 4)) rfl rfl (by kernel_rfl) (by kernel_rfl) (by kernel_rfl) (by kernel_rfl) (fun _ _ _ h => h) (by rfl) ?hye5 hS0 trivial ?goe5
  case hye5 =>
    intro w9 hT9
    clear hT9; go_simp
  (try simp only [Act.put, List.setIfInBounds_toArray, List.set_cons_zero, List.set_cons_succ])
  refine wpE_takeS (i := 6) (d := some 54) (v := .pointer (some ⟨zf, 3, none⟩)) rfl rfl (by kernel_rfl) (by kernel_rfl) (by kernel_rfl) (by kernel_rfl) (fun _ _ _ h => h) (by rfl) ?hye6 hS0 trivial ?goe6
  case hye6 =>
    intro w9 hT9
    clear hT9; go_simp
  (try simp only [Act.put, List.setIfInBounds_toArray, List.set_cons_zero, List.set_cons_succ])
  refine wpE_all (rs := [7]) (by kernel_rfl) (by simp) ?_
  refine AllE.cons rfl (fun K hK => ?_) AllE.nil
  simp only [List.getElem_toArray, List.getElem_cons_succ, List.getElem_cons_zero]
  have z5 : Wc.drew.cell? ⟨zf, 3, none⟩ = some (.int .i64 c3) := cell_of HF.out (i := 3) rfl
  have z6 : Wc.drew.frozen? ⟨zf, 3, none⟩ = false := frozen_of HF.out 3
  go_simp
  refine hK.out _ _ ⟨fun h => absurd h (by simp), trivial⟩ (fun _ => ?_)
  clear hK K
  (try simp only [Act.put, List.setIfInBounds_toArray, List.set_cons_zero, List.set_cons_succ])
  refine wpE_done (by kernel_rfl) ?_ _
  obtain ⟨Wd, hWd⟩ : ∃ Wd, (Wc.setCell ⟨zf, 3, none⟩ (.int .i64 (c3 + ar - 4))).drew = Wd := ⟨_, rfl⟩
  have hFd : Wd.heap[zf]? = some (.cells #[.int .i64 c0, .int .i64 c1', .int .i64 c2, .int .i64 (c3 + ar - 4)] 69 (0, 0)) := by
    rw [← hWd]
    show (Wc.setCell ⟨zf, 3, none⟩ (.int .i64 (c3 + ar - 4))).heap[zf]? = _
    rw [heap_setCell_same Wc zf 3 _ 69 _ HF.out]; rfl
  have hGd : Wd.heap[zg]? = some (.cells #[.int .i64 c0, .int .i64 c1', .int .i64 c2, .int .i64 c3] 69 (0, 0)) := by
    rw [← hWd]
    show (Wc.setCell ⟨zf, 3, none⟩ (.int .i64 (c3 + ar - 4))).heap[zg]? = _
    rw [heap_setCell_other Wc ⟨zf, 3, none⟩ zg _ (by show zg ≠ zf; omega)]; exact HG2.out
  have HXD := Lib.hid (show Ext w3 Wd by rw [← hWd]; exact (HXC.out.setCell (p := ⟨zf, 3, none⟩) HFW.out _).drew)
  rw [hWd]
  have HFD := Lib.hid hFd
  have HGD := Lib.hid hGd
  have HKD := Lib.hid (((HX.out.trans (HX3.out.trans HXD.out)).block _ (lt_of_block HK8.out)).trans HK8.out)
  clear hWd hFd hGd HF HG HG2 HXC HXB
  go_upto_region 6 with (fail)
  go_cut [20] (fun s20 wx => ∃ zq, s20 = .slice (some ⟨zq, 0, none⟩) 4 4 ∧ wx.heap[zq]? = some (.cells #[.int .i64 g0, .int .i64 g1, .int .i64 g2, .int .i64 g3, .int .i64 k0, .int .i64 k1, .int .i64 k2, .int .i64 k3, .int .i64 c0, .int .i64 c1', .int .i64 c2, .int .i64 c3, .int .i64 c0, .int .i64 c1', .int .i64 c2, .int .i64 (c3 + ar - 4)] 69 (0, 0)) ∧ Ext w3 wx)
  case first =>
    have HCC := Lib.hid (fun X => (show Calls Tryz.prog 43 #[.int .i64 nn] X (fun e w' => e = .returned (.agg #[.int .i64 g0, .int .i64 g1, .int .i64 g2, .int .i64 g3]) ∧ Ext X w') from (HCI.out X).mono fun e w' h => ⟨by rw [h.1, HCT.out]; rfl, h.2⟩))
    have HQ := Lib.hid (fun X (hX : Ext Wd X) => (show (X.cell? ⟨z8, 0, none⟩ = some (.int .i64 k0) ∧ X.cell? ⟨z8, 1, none⟩ = some (.int .i64 k1) ∧ X.cell? ⟨z8, 2, none⟩ = some (.int .i64 k2) ∧ X.cell? ⟨z8, 3, none⟩ = some (.int .i64 k3)) ∧ (X.cell? ⟨zg, 0, none⟩ = some (.int .i64 c0) ∧ X.cell? ⟨zg, 1, none⟩ = some (.int .i64 c1') ∧ X.cell? ⟨zg, 2, none⟩ = some (.int .i64 c2) ∧ X.cell? ⟨zg, 3, none⟩ = some (.int .i64 c3)) ∧ X.cell? ⟨zf, 0, none⟩ = some (.int .i64 c0) ∧ X.cell? ⟨zf, 1, none⟩ = some (.int .i64 c1') ∧ X.cell? ⟨zf, 2, none⟩ = some (.int .i64 c2) ∧ X.cell? ⟨zf, 3, none⟩ = some (.int .i64 (c3 + ar - 4)) from
      have h1 := (hX.block _ (lt_of_block HKD.out)).trans HKD.out
      have h2 := (hX.block _ (lt_of_block HGD.out)).trans HGD.out
      have h3 := (hX.block _ (lt_of_block HFD.out)).trans HFD.out
      ⟨⟨cell_of h1 (i := 0) rfl, cell_of h1 (i := 1) rfl, cell_of h1 (i := 2) rfl, cell_of h1 (i := 3) rfl⟩, ⟨cell_of h2 (i := 0) rfl, cell_of h2 (i := 1) rfl, cell_of h2 (i := 2) rfl, cell_of h2 (i := 3) rfl⟩, cell_of h3 (i := 0) rfl, cell_of h3 (i := 1) rfl, cell_of h3 (i := 2) rfl, cell_of h3 (i := 3) rfl⟩))
    have hS0 : (fun X : World => (X.cell? ⟨z8, 0, none⟩ = some (.int .i64 k0) ∧ X.cell? ⟨z8, 1, none⟩ = some (.int .i64 k1) ∧ X.cell? ⟨z8, 2, none⟩ = some (.int .i64 k2) ∧ X.cell? ⟨z8, 3, none⟩ = some (.int .i64 k3)) ∧ (X.cell? ⟨zg, 0, none⟩ = some (.int .i64 c0) ∧ X.cell? ⟨zg, 1, none⟩ = some (.int .i64 c1') ∧ X.cell? ⟨zg, 2, none⟩ = some (.int .i64 c2) ∧ X.cell? ⟨zg, 3, none⟩ = some (.int .i64 c3)) ∧ X.cell? ⟨zf, 0, none⟩ = some (.int .i64 c0) ∧ X.cell? ⟨zf, 1, none⟩ = some (.int .i64 c1') ∧ X.cell? ⟨zf, 2, none⟩ = some (.int .i64 c2) ∧ X.cell? ⟨zf, 3, none⟩ = some (.int .i64 (c3 + ar - 4))) Wd.drew := HQ.out _ (Ext.refl _).drew
    refine wp_region_E (fun X : World => (X.cell? ⟨z8, 0, none⟩ = some (.int .i64 k0) ∧ X.cell? ⟨z8, 1, none⟩ = some (.int .i64 k1) ∧ X.cell? ⟨z8, 2, none⟩ = some (.int .i64 k2) ∧ X.cell? ⟨z8, 3, none⟩ = some (.int .i64 k3)) ∧ (X.cell? ⟨zg, 0, none⟩ = some (.int .i64 c0) ∧ X.cell? ⟨zg, 1, none⟩ = some (.int .i64 c1') ∧ X.cell? ⟨zg, 2, none⟩ = some (.int .i64 c2) ∧ X.cell? ⟨zg, 3, none⟩ = some (.int .i64 c3)) ∧ X.cell? ⟨zf, 0, none⟩ = some (.int .i64 c0) ∧ X.cell? ⟨zf, 1, none⟩ = some (.int .i64 c1') ∧ X.cell? ⟨zf, 2, none⟩ = some (.int .i64 c2) ∧ X.cell? ⟨zf, 3, none⟩ = some (.int .i64 (c3 + ar - 4))) (fun _ => True) (fun i => i == 6) (by kernel_rfl) ?_
    refine wpE_takeS (i := 0) (d := some 55) (v := .int .i64 nn) rfl rfl (by kernel_rfl) (by kernel_rfl) (by kernel_rfl) (by kernel_rfl) (fun _ _ _ h => h) (by rfl) ?hys1 hS0 trivial ?gos1
    case hys1 =>
      intro w9 hT9
      clear hT9; go_simp
    (try simp only [Act.put, List.setIfInBounds_toArray, List.set_cons_zero, List.set_cons_succ])
    refine wpE_takeS (i := 2) (d := some 57) (v := .agg #[.int .i64 k0, .int .i64 k1, .int .i64 k2, .int .i64 k3]) rfl rfl (by kernel_rfl) (by kernel_rfl) (by kernel_rfl) (by kernel_rfl) (fun _ _ _ h => h) (by rfl) ?hys2 hS0 trivial ?gos2
    case hys2 =>
      intro w9 hT9
      obtain ⟨⟨y0, y1, y2, y3⟩, ⟨y4, y5, y6, y7⟩, y8, y9, y10, y11⟩ := hT9; go_simp
    (try simp only [Act.put, List.setIfInBounds_toArray, List.set_cons_zero, List.set_cons_succ])
    refine wpE_takeS (i := 3) (d := some 58) (v := .agg #[.int .i64 c0, .int .i64 c1', .int .i64 c2, .int .i64 c3]) rfl rfl (by kernel_rfl) (by kernel_rfl) (by kernel_rfl) (by kernel_rfl) (fun _ _ _ h => h) (by rfl) ?hys3 hS0 trivial ?gos3
    case hys3 =>
      intro w9 hT9
      obtain ⟨⟨y0, y1, y2, y3⟩, ⟨y4, y5, y6, y7⟩, y8, y9, y10, y11⟩ := hT9; go_simp
    (try simp only [Act.put, List.setIfInBounds_toArray, List.set_cons_zero, List.set_cons_succ])
    refine wpE_takeS (i := 4) (d := some 59) (v := .agg #[.int .i64 c0, .int .i64 c1', .int .i64 c2, .int .i64 (c3 + ar - 4)]) rfl rfl (by kernel_rfl) (by kernel_rfl) (by kernel_rfl) (by kernel_rfl) (fun _ _ _ h => h) (by rfl) ?hys4 hS0 trivial ?gos4
    case hys4 =>
      intro w9 hT9
      obtain ⟨⟨y0, y1, y2, y3⟩, ⟨y4, y5, y6, y7⟩, y8, y9, y10, y11⟩ := hT9; go_simp
    (try simp only [Act.put, List.setIfInBounds_toArray, List.set_cons_zero, List.set_cons_succ])
    refine wpE_all (rs := [1]) (by kernel_rfl) (by simp) ?_
    refine AllE.cons rfl (fun K hK => ?_) AllE.nil
    simp only [List.getElem_toArray, List.getElem_cons_succ, List.getElem_cons_zero]
    go_simp
    go_at_call 43
    refine (HCC.out _).mono ?_
    rintro z9 wG ⟨rfl, hxG⟩
    have hcur : Ext Wd wG := (Ext.refl _).drew.trans hxG
    simp only []
    refine hK.out _ _ ⟨fun _ => (HQ.out _ hcur), trivial⟩ (fun _ => ?_)
    clear hK K
    have hS0 := (HQ.out _ hcur)
    (try simp only [Act.put, List.setIfInBounds_toArray, List.set_cons_zero, List.set_cons_succ])
    refine wpE_all (rs := [5]) (by kernel_rfl) (by simp) ?_
    refine AllE.cons rfl (fun K hK => ?_) AllE.nil
    simp only [List.getElem_toArray, List.getElem_cons_succ, List.getElem_cons_zero]
    go_simp
    refine hK.out _ _ ⟨fun _ => (HQ.out _ (hcur.alloc (.cells #[.int .i64 g0, .int .i64 g1, .int .i64 g2, .int .i64 g3, .int .i64 k0, .int .i64 k1, .int .i64 k2, .int .i64 k3, .int .i64 c0, .int .i64 c1', .int .i64 c2, .int .i64 c3, .int .i64 c0, .int .i64 c1', .int .i64 c2, .int .i64 (c3 + ar - 4)] 69))), trivial⟩ (fun _ => ?_)
    clear hK K
    have hS0 := (HQ.out _ (hcur.alloc (.cells #[.int .i64 g0, .int .i64 g1, .int .i64 g2, .int .i64 g3, .int .i64 k0, .int .i64 k1, .int .i64 k2, .int .i64 k3, .int .i64 c0, .int .i64 c1', .int .i64 c2, .int .i64 c3, .int .i64 c0, .int .i64 c1', .int .i64 c2, .int .i64 (c3 + ar - 4)] 69)))
    (try simp only [Act.put, List.setIfInBounds_toArray, List.set_cons_zero, List.set_cons_succ])
    refine wpE_all (rs := [6]) (by kernel_rfl) (by simp) ?_
    refine AllE.cons rfl (fun K hK => ?_) AllE.nil
    simp only [List.getElem_toArray, List.getElem_cons_succ, List.getElem_cons_zero]
    go_simp
    refine hK.out _ _ ⟨fun h => absurd h (by simp), trivial⟩ (fun _ => ?_)
    clear hK K
    (try simp only [Act.put, List.setIfInBounds_toArray, List.set_cons_zero, List.set_cons_succ])
    refine wpE_done (by kernel_rfl) ?_ _
    go_wp2_with fail
    go_meet
    case rel => exact ⟨_, rfl, heap_alloc_at _ _ _ _ rfl, HXD.out.trans (hcur.alloc _)⟩
  case rest =>
    obtain ⟨zq, rfl, hzq, hx6⟩ := hcut
    rename World => w5
    have HZQ := Lib.hid hzq
    have HX5 := Lib.hid (HX3.out.trans hx6)
    have HX35 := Lib.hid hx6
    clear hzq hx6
    go_wp2_with fail
    go_loopw [21, 22, 23, 24, 25, 26, 27] (fun s21 _ _ _ _ _ _ w' => VrR w5 s21 w') (fun s21 _ _ _ _ _ _ _ => toM 4 s21)
    case atStart => exact ⟨0, by omega, rfl, Ext.refl _⟩
    case round =>
      obtain ⟨i, hi, rfl, hx⟩ := hrel
      rename World => wr
      have HXR := Lib.hid hx
      have HXW := Lib.hid (HXA.out.trans (HX.out.trans (HX5.out.trans hx)))
      clear hx
      by_cases hlt : i < 4
      case neg =>
        have hni : ¬ ((i : Int) < 4) := by omega
        have HLW := Lib.hid (HLV.out wr HXW.out)
        go_wp2_with (first | (go_at_call 47; refine (HLW.out).mono ?_; rintro z11 w9 ⟨rfl, hx9⟩))
        go_ret
        exact ⟨rfl, HXW.out.trans hx9⟩
      have hI : (i : Int) < 4 := by omega
      obtain ⟨d0, d1, d2, d3, hd3, hd⟩ : ∃ d0 d1 d2 d3 : Int, (-9223372036854775808 ≤ d3 ∧ d3 ≤ 9223372036854775807) ∧ (w5.cell? ⟨zq, i * 4, none⟩ = some (.int .i64 d0) ∧ w5.cell? ⟨zq, i * 4 + 1, none⟩ = some (.int .i64 d1) ∧ w5.cell? ⟨zq, i * 4 + 2, none⟩ = some (.int .i64 d2) ∧ w5.cell? ⟨zq, i * 4 + 3, none⟩ = some (.int .i64 d3)) := by
        have h9 := HZQ.out
        have : i = 0 ∨ i = 1 ∨ i = 2 ∨ i = 3 := by omega
        rcases this with rfl | rfl | rfl | rfl
        · exact ⟨g0, g1, g2, g3, HK3.out.2, cell_of h9 (i := 0) rfl, cell_of h9 (i := 1) rfl, cell_of h9 (i := 2) rfl, cell_of h9 (i := 3) rfl⟩
        · exact ⟨k0, k1, k2, k3, HK3.out.1, cell_of h9 (i := 4) rfl, cell_of h9 (i := 5) rfl, cell_of h9 (i := 6) rfl, cell_of h9 (i := 7) rfl⟩
        · exact ⟨c0, c1', c2, c3, by omega, cell_of h9 (i := 8) rfl, cell_of h9 (i := 9) rfl, cell_of h9 (i := 10) rfl, cell_of h9 (i := 11) rfl⟩
        · exact ⟨c0, c1', c2, c3 + ar - 4, by omega, cell_of h9 (i := 12) rfl, cell_of h9 (i := 13) rfl, cell_of h9 (i := 14) rfl, cell_of h9 (i := 15) rfl⟩
      have HCE := Lib.hid (fun X (hX : Ext w5 X) => (show (X.cell? ⟨zb, 0, none⟩ = some (.int .i64 b.ms) ∧ X.cell? ⟨zb, 1, none⟩ = some (.int .i64 b.ht) ∧ X.cell? ⟨zb, 2, none⟩ = some (.slice A1 n c1)) ∧ X.cell? ⟨zq, i * 4, none⟩ = some (.int .i64 d0) ∧ X.cell? ⟨zq, i * 4 + 1, none⟩ = some (.int .i64 d1) ∧ X.cell? ⟨zq, i * 4 + 2, none⟩ = some (.int .i64 d2) ∧ X.cell? ⟨zq, i * 4 + 3, none⟩ = some (.int .i64 d3) from
        have hl := lt_of_block HZQ.out
        ⟨HBC.out X (HX35.out.trans hX), (hX.cells.1 zq _ hl).trans hd.1, (hX.cells.1 zq _ hl).trans hd.2.1, (hX.cells.1 zq _ hl).trans hd.2.2.1, (hX.cells.1 zq _ hl).trans hd.2.2.2⟩))
      obtain ⟨⟨p, ln, ok⟩, hcu⟩ : ∃ t, citU b d1 d2 d3 = t := ⟨_, rfl⟩
      have HBD := Lib.hid (citU_bd HOK.out HBI.out hcu)
      have HRX := Lib.hid (fun X (hX : Ext w5 X) => Lay.row_ext HR.out (HX5.out.trans hX))
      have HO1 := Lib.hid (fun X (hX : Ext w5 X) => (find_at _ X b d0 d1 d2 d3 A1 n c1 HBI.out (HRX.out X hX) (HL.out.ext (HXA.out.trans (HX.out.trans (HX5.out.trans hX)))) hd3.1 hd3.2).mono fun z w' h => find_u hcu h)
      have HO2 := Lib.hid (fun X (hX : Ext w5 X) => (rfind_cite _ X b d0 d1 d2 d3 A1 n c1 HBI.out (HRX.out X hX) hd3.2).mono fun z w' h => find_u hcu h)
      clear hd hcu hd3
      go_upto_region 10 with (fail)
      go_cut [22, 23, 24] (fun s22 s23 s24 wx => FdB wr p ln ok s22 s23 s24 wx)
      case first =>
        have HQ := Lib.hid (fun X (hX : Ext wr X) => HCE.out X (HXR.out.trans hX))
        have HO := Lib.hid (fun X (hX : Ext wr X) => HO1.out X (HXR.out.trans hX))
        have hS0 : (fun X : World => (X.cell? ⟨zb, 0, none⟩ = some (.int .i64 b.ms) ∧ X.cell? ⟨zb, 1, none⟩ = some (.int .i64 b.ht) ∧ X.cell? ⟨zb, 2, none⟩ = some (.slice A1 n c1)) ∧ X.cell? ⟨zq, i * 4, none⟩ = some (.int .i64 d0) ∧ X.cell? ⟨zq, i * 4 + 1, none⟩ = some (.int .i64 d1) ∧ X.cell? ⟨zq, i * 4 + 2, none⟩ = some (.int .i64 d2) ∧ X.cell? ⟨zq, i * 4 + 3, none⟩ = some (.int .i64 d3)) wr.drew := HQ.out _ (Ext.refl _).drew
        refine wp_region_E (fun X : World => (X.cell? ⟨zb, 0, none⟩ = some (.int .i64 b.ms) ∧ X.cell? ⟨zb, 1, none⟩ = some (.int .i64 b.ht) ∧ X.cell? ⟨zb, 2, none⟩ = some (.slice A1 n c1)) ∧ X.cell? ⟨zq, i * 4, none⟩ = some (.int .i64 d0) ∧ X.cell? ⟨zq, i * 4 + 1, none⟩ = some (.int .i64 d1) ∧ X.cell? ⟨zq, i * 4 + 2, none⟩ = some (.int .i64 d2) ∧ X.cell? ⟨zq, i * 4 + 3, none⟩ = some (.int .i64 d3)) (fun _ => True) (fun i => i == 14) (by kernel_rfl) ?_
        refine wpE_takeS (i := 0) (d := some 68) (v := .agg #[.int .i64 b.ms, .int .i64 b.ht, .slice A1 n c1]) rfl rfl (by kernel_rfl) (by kernel_rfl) (by kernel_rfl) (by kernel_rfl) (fun _ _ _ h => h) (by rfl) ?hya1 hS0 trivial ?goa1
        case hya1 =>
          intro w9 hT9
          obtain ⟨⟨y0, y1, y2⟩, y3, y4, y5, y6⟩ := hT9; go_simp
        (try simp only [Act.put, List.setIfInBounds_toArray, List.set_cons_zero, List.set_cons_succ])
        refine wpE_takeS (i := 1) (d := some 69) (v := .slice (some ⟨zq, 0, none⟩) 4 4) rfl rfl (by kernel_rfl) (by kernel_rfl) (by kernel_rfl) (by kernel_rfl) (fun _ _ _ h => h) (by rfl) ?hya2 hS0 trivial ?goa2
        case hya2 =>
          intro w9 hT9
          clear hT9; go_simp
        (try simp only [Act.put, List.setIfInBounds_toArray, List.set_cons_zero, List.set_cons_succ])
        refine wpE_takeS (i := 2) (d := some 70) (v := .int .i64 (i : Int)) rfl rfl (by kernel_rfl) (by kernel_rfl) (by kernel_rfl) (by kernel_rfl) (fun _ _ _ h => h) (by rfl) ?hya3 hS0 trivial ?goa3
        case hya3 =>
          intro w9 hT9
          clear hT9; go_simp
        (try simp only [Act.put, List.setIfInBounds_toArray, List.set_cons_zero, List.set_cons_succ])
        refine wpE_takeS (i := 3) (d := some 71) (v := .pointer (some ⟨zq, i * 4, none⟩)) rfl rfl (by kernel_rfl) (by kernel_rfl) (by kernel_rfl) (by kernel_rfl) (fun _ _ _ h => h) (by rfl) ?hya4 hS0 trivial ?goa4
        case hya4 =>
          intro w9 hT9
          clear hT9; go_simp
        (try simp only [Act.put, List.setIfInBounds_toArray, List.set_cons_zero, List.set_cons_succ])
        refine wpE_takeS (i := 4) (d := some 72) (v := .agg #[.int .i64 d0, .int .i64 d1, .int .i64 d2, .int .i64 d3]) rfl rfl (by kernel_rfl) (by kernel_rfl) (by kernel_rfl) (by kernel_rfl) (fun _ _ _ h => h) (by rfl) ?hya5 hS0 trivial ?goa5
        case hya5 =>
          intro w9 hT9
          obtain ⟨⟨y0, y1, y2⟩, y3, y4, y5, y6⟩ := hT9; go_simp
        (try simp only [Act.put, List.setIfInBounds_toArray, List.set_cons_zero, List.set_cons_succ])
        refine wpE_all (rs := [5, 10, 11]) (by kernel_rfl) (by simp) ?_
        refine AllE.cons rfl (fun K hK => ?_) (AllE.cons rfl (fun K hK => ?_) (AllE.cons rfl (fun K hK => ?_) AllE.nil))
        · skip
          simp only [List.getElem_toArray, List.getElem_cons_succ, List.getElem_cons_zero]
          go_simp
          go_at_call 44
          refine (HO.out _ (Ext.refl _).drew).mono ?_
          rintro z9 wG ⟨A7, n7, c7, A8, n8, c8, B1, m1, e1, B2, m2, e2, rfl, hxG, hfu⟩
          have hcur : Ext wr wG := (Ext.refl _).drew.trans hxG
          have hX8 : wr.heap.size ≤ wG.heap.size := by have h := hxG.lt; simpa using h
          replace hfu := hfu.mono (Q := fun j => wr.heap.size ≤ j) fun j hj _ => by simpa using hj
          simp only []
          refine hK.out _ _ ⟨fun _ => (HQ.out _ hcur), trivial⟩ (fun _ => ?_)
          clear hK K
          have hS0 := (HQ.out _ hcur)
          (try simp only [Act.put, List.setIfInBounds_toArray, List.set_cons_zero, List.set_cons_succ])
          refine wpE_takeS (i := 6) (d := some 67) (v := .tuple #[.agg #[.int .i64 p.num, .int .i64 p.suf, .int .i64 p.ent, .int .i64 p.ver, .slice A7 n7 c7, .slice A8 n8 c8], .agg #[.int .i64 ln.fr, .int .i64 ln.un, .slice B1 m1 e1, .slice B2 m2 e2], .bool ok]) rfl rfl (by kernel_rfl) (by kernel_rfl) (by kernel_rfl) (by kernel_rfl) (fun _ _ _ h => h) (by rfl) ?hya6 hS0 trivial ?goa6
          case hya6 =>
            intro w9 hT9
            clear hT9; go_simp
          (try simp only [Act.put, List.setIfInBounds_toArray, List.set_cons_zero, List.set_cons_succ])
          refine wpE_takeS (i := 7) (d := some 74) (v := .agg #[.int .i64 p.num, .int .i64 p.suf, .int .i64 p.ent, .int .i64 p.ver, .slice A7 n7 c7, .slice A8 n8 c8]) rfl rfl (by kernel_rfl) (by kernel_rfl) (by kernel_rfl) (by kernel_rfl) (fun _ _ _ h => h) (by rfl) ?hya7 hS0 trivial ?goa7
          case hya7 =>
            intro w9 hT9
            clear hT9; go_simp
          (try simp only [Act.put, List.setIfInBounds_toArray, List.set_cons_zero, List.set_cons_succ])
          refine wpE_takeS (i := 8) (d := some 75) (v := .agg #[.int .i64 ln.fr, .int .i64 ln.un, .slice B1 m1 e1, .slice B2 m2 e2]) rfl rfl (by kernel_rfl) (by kernel_rfl) (by kernel_rfl) (by kernel_rfl) (fun _ _ _ h => h) (by rfl) ?hya8 hS0 trivial ?goa8
          case hya8 =>
            intro w9 hT9
            clear hT9; go_simp
          (try simp only [Act.put, List.setIfInBounds_toArray, List.set_cons_zero, List.set_cons_succ])
          refine wpE_takeS (i := 9) (d := some 76) (v := .bool ok) rfl rfl (by kernel_rfl) (by kernel_rfl) (by kernel_rfl) (by kernel_rfl) (fun _ _ _ h => h) (by rfl) ?hya9 hS0 trivial ?goa9
          case hya9 =>
            intro w9 hT9
            clear hT9; go_simp
          (try simp only [Act.put, List.setIfInBounds_toArray, List.set_cons_zero, List.set_cons_succ])
          refine wpE_all (rs := [10, 11]) (by kernel_rfl) (by simp) ?_
          refine AllE.cons rfl (fun K hK => ?_) (AllE.cons rfl (fun K hK => ?_) AllE.nil)
          · skip
            simp only [List.getElem_toArray, List.getElem_cons_succ, List.getElem_cons_zero]
            go_simp
            refine hK.out _ _ ⟨fun _ => (HQ.out _ (hcur.alloc (.cells #[.int .i64 0, .int .i64 0, .int .i64 0, .int .i64 0, .slice none 0 0, .slice none 0 0] 84))), trivial⟩ (fun _ => ?_)
            clear hK K
            have hS0 := (HQ.out _ (hcur.alloc (.cells #[.int .i64 0, .int .i64 0, .int .i64 0, .int .i64 0, .slice none 0 0, .slice none 0 0] 84)))
            (try simp only [Act.put, List.setIfInBounds_toArray, List.set_cons_zero, List.set_cons_succ])
            refine wpE_all (rs := [11]) (by kernel_rfl) (by simp) ?_
            refine AllE.cons rfl (fun K hK => ?_) AllE.nil
            simp only [List.getElem_toArray, List.getElem_cons_succ, List.getElem_cons_zero]
            go_simp
            refine hK.out _ _ ⟨fun _ => (HQ.out _ ((hcur.alloc (.cells #[.int .i64 0, .int .i64 0, .int .i64 0, .int .i64 0, .slice none 0 0, .slice none 0 0] 84)).alloc (.cells #[.int .i64 0, .int .i64 0, .slice none 0 0, .slice none 0 0] 86))), trivial⟩ (fun _ => ?_)
            clear hK K
            have hS0 := (HQ.out _ ((hcur.alloc (.cells #[.int .i64 0, .int .i64 0, .int .i64 0, .int .i64 0, .slice none 0 0, .slice none 0 0] 84)).alloc (.cells #[.int .i64 0, .int .i64 0, .slice none 0 0, .slice none 0 0] 86)))
            (try simp only [Act.put, List.setIfInBounds_toArray, List.set_cons_zero, List.set_cons_succ])
            have h2 : (((wG.alloc (.cells #[.int .i64 0, .int .i64 0, .int .i64 0, .int .i64 0, .slice none 0 0, .slice none 0 0] 84)).alloc (.cells #[.int .i64 0, .int .i64 0, .slice none 0 0, .slice none 0 0] 86))).heap[wG.heap.size]? = some (.cells #[.int .i64 0, .int .i64 0, .int .i64 0, .int .i64 0, .slice none 0 0, .slice none 0 0] 84 (0, 0)) := ((heap_alloc_old _ _ _ (by (try simp); (try omega))).trans (heap_alloc_at _ _ _ _ (by (try simp); (try omega))))
            have h3 : (((wG.alloc (.cells #[.int .i64 0, .int .i64 0, .int .i64 0, .int .i64 0, .slice none 0 0, .slice none 0 0] 84)).alloc (.cells #[.int .i64 0, .int .i64 0, .slice none 0 0, .slice none 0 0] 86))).heap[wG.heap.size + 1]? = some (.cells #[.int .i64 0, .int .i64 0, .slice none 0 0, .slice none 0 0] 86 (0, 0)) := (heap_alloc_at _ _ _ _ (by (try simp); (try omega)))
            obtain ⟨V, hV⟩ : ∃ V, ((wG.alloc (.cells #[.int .i64 0, .int .i64 0, .int .i64 0, .int .i64 0, .slice none 0 0, .slice none 0 0] 84)).alloc (.cells #[.int .i64 0, .int .i64 0, .slice none 0 0, .slice none 0 0] 86)) = V := ⟨_, rfl⟩
            have hxV : Ext wr V := by rw [← hV]; exact ((hcur.alloc (.cells #[.int .i64 0, .int .i64 0, .int .i64 0, .int .i64 0, .slice none 0 0, .slice none 0 0] 84)).alloc (.cells #[.int .i64 0, .int .i64 0, .slice none 0 0, .slice none 0 0] 86))
            have hGV : Ext wG V := by rw [← hV]; exact (((Ext.refl wG).alloc (.cells #[.int .i64 0, .int .i64 0, .int .i64 0, .int .i64 0, .slice none 0 0, .slice none 0 0] 84)).alloc (.cells #[.int .i64 0, .int .i64 0, .slice none 0 0, .slice none 0 0] 86))
            obtain ⟨zp, hzp⟩ : ∃ zp, wG.heap.size = zp := ⟨_, rfl⟩
            obtain ⟨zl, hzl⟩ : ∃ zl, wG.heap.size + 1 = zl := ⟨_, rfl⟩
            rw [hV, hzp] at h2
            rw [hV, hzl] at h3
            have HFIN := Lib.hid (fd_end (ok := ok) (c7 := c7) (c8 := c8) (wr := wr) (XS := wr.heap.size) hfu (by omega) hGV hxV h2 h3 (by omega) (by omega) (by omega))
            have HSV := Lib.hid (HQ.out V hxV)
            have HZP := Lib.hid (show wr.heap.size ≤ zp ∧ zp ≠ zl from ⟨by omega, by omega⟩)
            try rw [hV]
            try rw [hzl]
            try rw [hzp]
            clear hS0
            have hS0 := HSV.out
            have v0 := cell_of h2 (i := 0) (u := .int .i64 0) rfl
            have f0 := frozen_of h2 0
            have v1 := cell_of h2 (i := 1) (u := .int .i64 0) rfl
            have f1 := frozen_of h2 1
            have v2 := cell_of h2 (i := 2) (u := .int .i64 0) rfl
            have f2 := frozen_of h2 2
            have v3 := cell_of h2 (i := 3) (u := .int .i64 0) rfl
            have f3 := frozen_of h2 3
            have v4 := cell_of h2 (i := 4) (u := .slice none 0 0) rfl
            have f4 := frozen_of h2 4
            have v5 := cell_of h2 (i := 5) (u := .slice none 0 0) rfl
            have f5 := frozen_of h2 5
            have HH3 := Lib.hid h3
            have HXV := Lib.hid hxV
            clear hV hzp hzl h2 h3 hfu hxV hGV hX8 hcur
            refine wpE_all (rs := [12]) (by kernel_rfl) (by simp) ?_
            refine AllE.cons rfl (fun K hK => ?_) AllE.nil
            simp only [List.getElem_toArray, List.getElem_cons_succ, List.getElem_cons_zero]
            go_simp
            refine hK.out _ _ ⟨fun _ => (HQ.out _ (set6_ext HXV.out HZP.out.1 (.int .i64 p.num) (.int .i64 p.suf) (.int .i64 p.ent) (.int .i64 p.ver) (.slice A7 n7 c7) (.slice A8 n8 c8))), trivial⟩ (fun _ => ?_)
            clear hK K
            have hS0 := (HQ.out _ (set6_ext HXV.out HZP.out.1 (.int .i64 p.num) (.int .i64 p.suf) (.int .i64 p.ent) (.int .i64 p.ver) (.slice A7 n7 c7) (.slice A8 n8 c8)))
            (try simp only [Act.put, List.setIfInBounds_toArray, List.set_cons_zero, List.set_cons_succ])
            clear v0 v1 v2 v3 v4 v5 f0 f1 f2 f3 f4 f5 hS0
            obtain ⟨Y6, hY6⟩ : ∃ Y, ((((((V.setCell ⟨zp, 0, none⟩ (.int .i64 p.num)).setCell ⟨zp, 1, none⟩ (.int .i64 p.suf)).setCell ⟨zp, 2, none⟩ (.int .i64 p.ent)).setCell ⟨zp, 3, none⟩ (.int .i64 p.ver)).setCell ⟨zp, 4, none⟩ (.slice A7 n7 c7)).setCell ⟨zp, 5, none⟩ (.slice A8 n8 c8)) = Y := ⟨_, rfl⟩
            have HL6 := Lib.hid (show Y6.heap[zl]? = some (.cells #[.int .i64 0, .int .i64 0, .slice none 0 0, .slice none 0 0] 86 (0, 0)) by rw [← hY6]; exact set6_heap HH3.out HZP.out.2 _ _ _ _ _ _)
            have HX6 := Lib.hid (show Ext wr Y6 by rw [← hY6]; exact set6_ext HXV.out HZP.out.1 _ _ _ _ _ _)
            rw [hY6] at HFIN ⊢
            clear hY6 HH3 HXV HSV
            have hS0 := HQ.out Y6 HX6.out
            have v0 := cell_of HL6.out (i := 0) (u := .int .i64 0) rfl
            have f0 := frozen_of HL6.out 0
            have v1 := cell_of HL6.out (i := 1) (u := .int .i64 0) rfl
            have f1 := frozen_of HL6.out 1
            have v2 := cell_of HL6.out (i := 2) (u := .slice none 0 0) rfl
            have f2 := frozen_of HL6.out 2
            have v3 := cell_of HL6.out (i := 3) (u := .slice none 0 0) rfl
            have f3 := frozen_of HL6.out 3
            refine wpE_all (rs := [13]) (by kernel_rfl) (by simp) ?_
            refine AllE.cons rfl (fun K hK => ?_) AllE.nil
            simp only [List.getElem_toArray, List.getElem_cons_succ, List.getElem_cons_zero]
            go_simp
            refine hK.out _ _ ⟨fun _ => (HQ.out _ HFIN.out.ext), trivial⟩ (fun _ => ?_)
            clear hK K
            have hS0 := (HQ.out _ HFIN.out.ext)
            (try simp only [Act.put, List.setIfInBounds_toArray, List.set_cons_zero, List.set_cons_succ])
            clear v0 v1 v2 v3 f0 f1 f2 f3 hS0
            obtain ⟨Y, hY⟩ : ∃ Y, ((((Y6.setCell ⟨zl, 0, none⟩ (.int .i64 ln.fr)).setCell ⟨zl, 1, none⟩ (.int .i64 ln.un)).setCell ⟨zl, 2, none⟩ (.slice B1 m1 e1)).setCell ⟨zl, 3, none⟩ (.slice B2 m2 e2)) = Y := ⟨_, rfl⟩
            rw [hY] at HFIN ⊢
            clear hY
            have hS0 := HQ.out Y HFIN.out.ext
            refine wpE_all (rs := [14]) (by kernel_rfl) (by simp) ?_
            refine AllE.cons rfl (fun K hK => ?_) AllE.nil
            simp only [List.getElem_toArray, List.getElem_cons_succ, List.getElem_cons_zero]
            go_simp
            refine hK.out _ _ ⟨fun h => absurd h (by simp), trivial⟩ (fun _ => ?_)
            clear hK K
            (try simp only [Act.put, List.setIfInBounds_toArray, List.set_cons_zero, List.set_cons_succ])
            refine wpE_done (by kernel_rfl) ?_ _
            go_wp2_with fail
            go_meet
            case rel => exact HFIN.out
          · skip
            simp only [List.getElem_toArray, List.getElem_cons_succ, List.getElem_cons_zero]
            go_simp
            refine hK.out _ _ ⟨fun _ => (HQ.out _ (hcur.alloc (.cells #[.int .i64 0, .int .i64 0, .slice none 0 0, .slice none 0 0] 86))), trivial⟩ (fun _ => ?_)
            clear hK K
            have hS0 := (HQ.out _ (hcur.alloc (.cells #[.int .i64 0, .int .i64 0, .slice none 0 0, .slice none 0 0] 86)))
            (try simp only [Act.put, List.setIfInBounds_toArray, List.set_cons_zero, List.set_cons_succ])
            refine wpE_all (rs := [10]) (by kernel_rfl) (by simp) ?_
            refine AllE.cons rfl (fun K hK => ?_) AllE.nil
            simp only [List.getElem_toArray, List.getElem_cons_succ, List.getElem_cons_zero]
            go_simp
            refine hK.out _ _ ⟨fun _ => (HQ.out _ ((hcur.alloc (.cells #[.int .i64 0, .int .i64 0, .slice none 0 0, .slice none 0 0] 86)).alloc (.cells #[.int .i64 0, .int .i64 0, .int .i64 0, .int .i64 0, .slice none 0 0, .slice none 0 0] 84))), trivial⟩ (fun _ => ?_)
            clear hK K
            have hS0 := (HQ.out _ ((hcur.alloc (.cells #[.int .i64 0, .int .i64 0, .slice none 0 0, .slice none 0 0] 86)).alloc (.cells #[.int .i64 0, .int .i64 0, .int .i64 0, .int .i64 0, .slice none 0 0, .slice none 0 0] 84)))
            (try simp only [Act.put, List.setIfInBounds_toArray, List.set_cons_zero, List.set_cons_succ])
            have h2 : (((wG.alloc (.cells #[.int .i64 0, .int .i64 0, .slice none 0 0, .slice none 0 0] 86)).alloc (.cells #[.int .i64 0, .int .i64 0, .int .i64 0, .int .i64 0, .slice none 0 0, .slice none 0 0] 84))).heap[wG.heap.size + 1]? = some (.cells #[.int .i64 0, .int .i64 0, .int .i64 0, .int .i64 0, .slice none 0 0, .slice none 0 0] 84 (0, 0)) := (heap_alloc_at _ _ _ _ (by (try simp); (try omega)))
            have h3 : (((wG.alloc (.cells #[.int .i64 0, .int .i64 0, .slice none 0 0, .slice none 0 0] 86)).alloc (.cells #[.int .i64 0, .int .i64 0, .int .i64 0, .int .i64 0, .slice none 0 0, .slice none 0 0] 84))).heap[wG.heap.size]? = some (.cells #[.int .i64 0, .int .i64 0, .slice none 0 0, .slice none 0 0] 86 (0, 0)) := ((heap_alloc_old _ _ _ (by (try simp); (try omega))).trans (heap_alloc_at _ _ _ _ (by (try simp); (try omega))))
            obtain ⟨V, hV⟩ : ∃ V, ((wG.alloc (.cells #[.int .i64 0, .int .i64 0, .slice none 0 0, .slice none 0 0] 86)).alloc (.cells #[.int .i64 0, .int .i64 0, .int .i64 0, .int .i64 0, .slice none 0 0, .slice none 0 0] 84)) = V := ⟨_, rfl⟩
            have hxV : Ext wr V := by rw [← hV]; exact ((hcur.alloc (.cells #[.int .i64 0, .int .i64 0, .slice none 0 0, .slice none 0 0] 86)).alloc (.cells #[.int .i64 0, .int .i64 0, .int .i64 0, .int .i64 0, .slice none 0 0, .slice none 0 0] 84))
            have hGV : Ext wG V := by rw [← hV]; exact (((Ext.refl wG).alloc (.cells #[.int .i64 0, .int .i64 0, .slice none 0 0, .slice none 0 0] 86)).alloc (.cells #[.int .i64 0, .int .i64 0, .int .i64 0, .int .i64 0, .slice none 0 0, .slice none 0 0] 84))
            obtain ⟨zp, hzp⟩ : ∃ zp, wG.heap.size + 1 = zp := ⟨_, rfl⟩
            obtain ⟨zl, hzl⟩ : ∃ zl, wG.heap.size = zl := ⟨_, rfl⟩
            rw [hV, hzp] at h2
            rw [hV, hzl] at h3
            have HFIN := Lib.hid (fd_end (ok := ok) (c7 := c7) (c8 := c8) (wr := wr) (XS := wr.heap.size) hfu (by omega) hGV hxV h2 h3 (by omega) (by omega) (by omega))
            have HSV := Lib.hid (HQ.out V hxV)
            have HZP := Lib.hid (show wr.heap.size ≤ zp ∧ zp ≠ zl from ⟨by omega, by omega⟩)
            try rw [hV]
            try rw [hzp]
            try rw [hzl]
            clear hS0
            have hS0 := HSV.out
            have v0 := cell_of h2 (i := 0) (u := .int .i64 0) rfl
            have f0 := frozen_of h2 0
            have v1 := cell_of h2 (i := 1) (u := .int .i64 0) rfl
            have f1 := frozen_of h2 1
            have v2 := cell_of h2 (i := 2) (u := .int .i64 0) rfl
            have f2 := frozen_of h2 2
            have v3 := cell_of h2 (i := 3) (u := .int .i64 0) rfl
            have f3 := frozen_of h2 3
            have v4 := cell_of h2 (i := 4) (u := .slice none 0 0) rfl
            have f4 := frozen_of h2 4
            have v5 := cell_of h2 (i := 5) (u := .slice none 0 0) rfl
            have f5 := frozen_of h2 5
            have HH3 := Lib.hid h3
            have HXV := Lib.hid hxV
            clear hV hzp hzl h2 h3 hfu hxV hGV hX8 hcur
            refine wpE_all (rs := [12]) (by kernel_rfl) (by simp) ?_
            refine AllE.cons rfl (fun K hK => ?_) AllE.nil
            simp only [List.getElem_toArray, List.getElem_cons_succ, List.getElem_cons_zero]
            go_simp
            refine hK.out _ _ ⟨fun _ => (HQ.out _ (set6_ext HXV.out HZP.out.1 (.int .i64 p.num) (.int .i64 p.suf) (.int .i64 p.ent) (.int .i64 p.ver) (.slice A7 n7 c7) (.slice A8 n8 c8))), trivial⟩ (fun _ => ?_)
            clear hK K
            have hS0 := (HQ.out _ (set6_ext HXV.out HZP.out.1 (.int .i64 p.num) (.int .i64 p.suf) (.int .i64 p.ent) (.int .i64 p.ver) (.slice A7 n7 c7) (.slice A8 n8 c8)))
            (try simp only [Act.put, List.setIfInBounds_toArray, List.set_cons_zero, List.set_cons_succ])
            clear v0 v1 v2 v3 v4 v5 f0 f1 f2 f3 f4 f5 hS0
            obtain ⟨Y6, hY6⟩ : ∃ Y, ((((((V.setCell ⟨zp, 0, none⟩ (.int .i64 p.num)).setCell ⟨zp, 1, none⟩ (.int .i64 p.suf)).setCell ⟨zp, 2, none⟩ (.int .i64 p.ent)).setCell ⟨zp, 3, none⟩ (.int .i64 p.ver)).setCell ⟨zp, 4, none⟩ (.slice A7 n7 c7)).setCell ⟨zp, 5, none⟩ (.slice A8 n8 c8)) = Y := ⟨_, rfl⟩
            have HL6 := Lib.hid (show Y6.heap[zl]? = some (.cells #[.int .i64 0, .int .i64 0, .slice none 0 0, .slice none 0 0] 86 (0, 0)) by rw [← hY6]; exact set6_heap HH3.out HZP.out.2 _ _ _ _ _ _)
            have HX6 := Lib.hid (show Ext wr Y6 by rw [← hY6]; exact set6_ext HXV.out HZP.out.1 _ _ _ _ _ _)
            rw [hY6] at HFIN ⊢
            clear hY6 HH3 HXV HSV
            have hS0 := HQ.out Y6 HX6.out
            have v0 := cell_of HL6.out (i := 0) (u := .int .i64 0) rfl
            have f0 := frozen_of HL6.out 0
            have v1 := cell_of HL6.out (i := 1) (u := .int .i64 0) rfl
            have f1 := frozen_of HL6.out 1
            have v2 := cell_of HL6.out (i := 2) (u := .slice none 0 0) rfl
            have f2 := frozen_of HL6.out 2
            have v3 := cell_of HL6.out (i := 3) (u := .slice none 0 0) rfl
            have f3 := frozen_of HL6.out 3
            refine wpE_all (rs := [13]) (by kernel_rfl) (by simp) ?_
            refine AllE.cons rfl (fun K hK => ?_) AllE.nil
            simp only [List.getElem_toArray, List.getElem_cons_succ, List.getElem_cons_zero]
            go_simp
            refine hK.out _ _ ⟨fun _ => (HQ.out _ HFIN.out.ext), trivial⟩ (fun _ => ?_)
            clear hK K
            have hS0 := (HQ.out _ HFIN.out.ext)
            (try simp only [Act.put, List.setIfInBounds_toArray, List.set_cons_zero, List.set_cons_succ])
            clear v0 v1 v2 v3 f0 f1 f2 f3 hS0
            obtain ⟨Y, hY⟩ : ∃ Y, ((((Y6.setCell ⟨zl, 0, none⟩ (.int .i64 ln.fr)).setCell ⟨zl, 1, none⟩ (.int .i64 ln.un)).setCell ⟨zl, 2, none⟩ (.slice B1 m1 e1)).setCell ⟨zl, 3, none⟩ (.slice B2 m2 e2)) = Y := ⟨_, rfl⟩
            rw [hY] at HFIN ⊢
            clear hY
            have hS0 := HQ.out Y HFIN.out.ext
            refine wpE_all (rs := [14]) (by kernel_rfl) (by simp) ?_
            refine AllE.cons rfl (fun K hK => ?_) AllE.nil
            simp only [List.getElem_toArray, List.getElem_cons_succ, List.getElem_cons_zero]
            go_simp
            refine hK.out _ _ ⟨fun h => absurd h (by simp), trivial⟩ (fun _ => ?_)
            clear hK K
            (try simp only [Act.put, List.setIfInBounds_toArray, List.set_cons_zero, List.set_cons_succ])
            refine wpE_done (by kernel_rfl) ?_ _
            go_wp2_with fail
            go_meet
            case rel => exact HFIN.out
        · skip
          simp only [List.getElem_toArray, List.getElem_cons_succ, List.getElem_cons_zero]
          go_simp
          refine hK.out _ _ ⟨fun _ => (HQ.out _ ((Ext.refl _).drew.alloc (.cells #[.int .i64 0, .int .i64 0, .int .i64 0, .int .i64 0, .slice none 0 0, .slice none 0 0] 84))), trivial⟩ (fun _ => ?_)
          clear hK K
          have hS0 := (HQ.out _ ((Ext.refl _).drew.alloc (.cells #[.int .i64 0, .int .i64 0, .int .i64 0, .int .i64 0, .slice none 0 0, .slice none 0 0] 84)))
          (try simp only [Act.put, List.setIfInBounds_toArray, List.set_cons_zero, List.set_cons_succ])
          refine wpE_all (rs := [5, 11]) (by kernel_rfl) (by simp) ?_
          refine AllE.cons rfl (fun K hK => ?_) (AllE.cons rfl (fun K hK => ?_) AllE.nil)
          · skip
            simp only [List.getElem_toArray, List.getElem_cons_succ, List.getElem_cons_zero]
            go_simp
            go_at_call 44
            refine (HO.out _ ((Ext.refl _).drew.alloc (.cells #[.int .i64 0, .int .i64 0, .int .i64 0, .int .i64 0, .slice none 0 0, .slice none 0 0] 84))).mono ?_
            rintro z9 wG ⟨A7, n7, c7, A8, n8, c8, B1, m1, e1, B2, m2, e2, rfl, hxG, hfu⟩
            have hcur : Ext wr wG := ((Ext.refl _).drew.alloc (.cells #[.int .i64 0, .int .i64 0, .int .i64 0, .int .i64 0, .slice none 0 0, .slice none 0 0] 84)).trans hxG
            have hX8 : wr.heap.size + 1 ≤ wG.heap.size := by have h := hxG.lt; simpa using h
            replace hfu := hfu.mono (Q := fun j => wr.heap.size + 1 ≤ j) fun j hj _ => by simpa using hj
            simp only []
            refine hK.out _ _ ⟨fun _ => (HQ.out _ hcur), trivial⟩ (fun _ => ?_)
            clear hK K
            have hS0 := (HQ.out _ hcur)
            (try simp only [Act.put, List.setIfInBounds_toArray, List.set_cons_zero, List.set_cons_succ])
            refine wpE_takeS (i := 6) (d := some 67) (v := .tuple #[.agg #[.int .i64 p.num, .int .i64 p.suf, .int .i64 p.ent, .int .i64 p.ver, .slice A7 n7 c7, .slice A8 n8 c8], .agg #[.int .i64 ln.fr, .int .i64 ln.un, .slice B1 m1 e1, .slice B2 m2 e2], .bool ok]) rfl rfl (by kernel_rfl) (by kernel_rfl) (by kernel_rfl) (by kernel_rfl) (fun _ _ _ h => h) (by rfl) ?hya10 hS0 trivial ?goa10
            case hya10 =>
              intro w9 hT9
              clear hT9; go_simp
            (try simp only [Act.put, List.setIfInBounds_toArray, List.set_cons_zero, List.set_cons_succ])
            refine wpE_takeS (i := 7) (d := some 74) (v := .agg #[.int .i64 p.num, .int .i64 p.suf, .int .i64 p.ent, .int .i64 p.ver, .slice A7 n7 c7, .slice A8 n8 c8]) rfl rfl (by kernel_rfl) (by kernel_rfl) (by kernel_rfl) (by kernel_rfl) (fun _ _ _ h => h) (by rfl) ?hya11 hS0 trivial ?goa11
            case hya11 =>
              intro w9 hT9
              clear hT9; go_simp
            (try simp only [Act.put, List.setIfInBounds_toArray, List.set_cons_zero, List.set_cons_succ])
            refine wpE_takeS (i := 8) (d := some 75) (v := .agg #[.int .i64 ln.fr, .int .i64 ln.un, .slice B1 m1 e1, .slice B2 m2 e2]) rfl rfl (by kernel_rfl) (by kernel_rfl) (by kernel_rfl) (by kernel_rfl) (fun _ _ _ h => h) (by rfl) ?hya12 hS0 trivial ?goa12
            case hya12 =>
              intro w9 hT9
              clear hT9; go_simp
            (try simp only [Act.put, List.setIfInBounds_toArray, List.set_cons_zero, List.set_cons_succ])
            refine wpE_takeS (i := 9) (d := some 76) (v := .bool ok) rfl rfl (by kernel_rfl) (by kernel_rfl) (by kernel_rfl) (by kernel_rfl) (fun _ _ _ h => h) (by rfl) ?hya13 hS0 trivial ?goa13
            case hya13 =>
              intro w9 hT9
              clear hT9; go_simp
            (try simp only [Act.put, List.setIfInBounds_toArray, List.set_cons_zero, List.set_cons_succ])
            refine wpE_all (rs := [11]) (by kernel_rfl) (by simp) ?_
            refine AllE.cons rfl (fun K hK => ?_) AllE.nil
            simp only [List.getElem_toArray, List.getElem_cons_succ, List.getElem_cons_zero]
            go_simp
            refine hK.out _ _ ⟨fun _ => (HQ.out _ (hcur.alloc (.cells #[.int .i64 0, .int .i64 0, .slice none 0 0, .slice none 0 0] 86))), trivial⟩ (fun _ => ?_)
            clear hK K
            have hS0 := (HQ.out _ (hcur.alloc (.cells #[.int .i64 0, .int .i64 0, .slice none 0 0, .slice none 0 0] 86)))
            (try simp only [Act.put, List.setIfInBounds_toArray, List.set_cons_zero, List.set_cons_succ])
            have h2 : ((wG.alloc (.cells #[.int .i64 0, .int .i64 0, .slice none 0 0, .slice none 0 0] 86))).heap[wr.heap.size]? = some (.cells #[.int .i64 0, .int .i64 0, .int .i64 0, .int .i64 0, .slice none 0 0, .slice none 0 0] 84 (0, 0)) := ((heap_alloc_old _ _ _ (by (try simp); (try omega))).trans ((hxG.block _ (by (try simp); (try omega))).trans (heap_alloc_at _ _ _ _ (by (try simp); (try omega)))))
            have h3 : ((wG.alloc (.cells #[.int .i64 0, .int .i64 0, .slice none 0 0, .slice none 0 0] 86))).heap[wG.heap.size]? = some (.cells #[.int .i64 0, .int .i64 0, .slice none 0 0, .slice none 0 0] 86 (0, 0)) := (heap_alloc_at _ _ _ _ (by (try simp); (try omega)))
            obtain ⟨V, hV⟩ : ∃ V, (wG.alloc (.cells #[.int .i64 0, .int .i64 0, .slice none 0 0, .slice none 0 0] 86)) = V := ⟨_, rfl⟩
            have hxV : Ext wr V := by rw [← hV]; exact (hcur.alloc (.cells #[.int .i64 0, .int .i64 0, .slice none 0 0, .slice none 0 0] 86))
            have hGV : Ext wG V := by rw [← hV]; exact ((Ext.refl wG).alloc (.cells #[.int .i64 0, .int .i64 0, .slice none 0 0, .slice none 0 0] 86))
            obtain ⟨zp, hzp⟩ : ∃ zp, wr.heap.size = zp := ⟨_, rfl⟩
            obtain ⟨zl, hzl⟩ : ∃ zl, wG.heap.size = zl := ⟨_, rfl⟩
            rw [hV, hzp] at h2
            rw [hV, hzl] at h3
            have HFIN := Lib.hid (fd_end (ok := ok) (c7 := c7) (c8 := c8) (wr := wr) (XS := wr.heap.size + 1) hfu (by omega) hGV hxV h2 h3 (by omega) (by omega) (by omega))
            have HSV := Lib.hid (HQ.out V hxV)
            have HZP := Lib.hid (show wr.heap.size ≤ zp ∧ zp ≠ zl from ⟨by omega, by omega⟩)
            try rw [hV]
            try rw [hzp]
            try rw [hzl]
            clear hS0
            have hS0 := HSV.out
            have v0 := cell_of h2 (i := 0) (u := .int .i64 0) rfl
            have f0 := frozen_of h2 0
            have v1 := cell_of h2 (i := 1) (u := .int .i64 0) rfl
            have f1 := frozen_of h2 1
            have v2 := cell_of h2 (i := 2) (u := .int .i64 0) rfl
            have f2 := frozen_of h2 2
            have v3 := cell_of h2 (i := 3) (u := .int .i64 0) rfl
            have f3 := frozen_of h2 3
            have v4 := cell_of h2 (i := 4) (u := .slice none 0 0) rfl
            have f4 := frozen_of h2 4
            have v5 := cell_of h2 (i := 5) (u := .slice none 0 0) rfl
            have f5 := frozen_of h2 5
            have HH3 := Lib.hid h3
            have HXV := Lib.hid hxV
            clear hV hzp hzl h2 h3 hfu hxV hGV hX8 hcur
            refine wpE_all (rs := [12]) (by kernel_rfl) (by simp) ?_
            refine AllE.cons rfl (fun K hK => ?_) AllE.nil
            simp only [List.getElem_toArray, List.getElem_cons_succ, List.getElem_cons_zero]
            go_simp
            refine hK.out _ _ ⟨fun _ => (HQ.out _ (set6_ext HXV.out HZP.out.1 (.int .i64 p.num) (.int .i64 p.suf) (.int .i64 p.ent) (.int .i64 p.ver) (.slice A7 n7 c7) (.slice A8 n8 c8))), trivial⟩ (fun _ => ?_)
            clear hK K
            have hS0 := (HQ.out _ (set6_ext HXV.out HZP.out.1 (.int .i64 p.num) (.int .i64 p.suf) (.int .i64 p.ent) (.int .i64 p.ver) (.slice A7 n7 c7) (.slice A8 n8 c8)))
            (try simp only [Act.put, List.setIfInBounds_toArray, List.set_cons_zero, List.set_cons_succ])
            clear v0 v1 v2 v3 v4 v5 f0 f1 f2 f3 f4 f5 hS0
            obtain ⟨Y6, hY6⟩ : ∃ Y, ((((((V.setCell ⟨zp, 0, none⟩ (.int .i64 p.num)).setCell ⟨zp, 1, none⟩ (.int .i64 p.suf)).setCell ⟨zp, 2, none⟩ (.int .i64 p.ent)).setCell ⟨zp, 3, none⟩ (.int .i64 p.ver)).setCell ⟨zp, 4, none⟩ (.slice A7 n7 c7)).setCell ⟨zp, 5, none⟩ (.slice A8 n8 c8)) = Y := ⟨_, rfl⟩
            have HL6 := Lib.hid (show Y6.heap[zl]? = some (.cells #[.int .i64 0, .int .i64 0, .slice none 0 0, .slice none 0 0] 86 (0, 0)) by rw [← hY6]; exact set6_heap HH3.out HZP.out.2 _ _ _ _ _ _)
            have HX6 := Lib.hid (show Ext wr Y6 by rw [← hY6]; exact set6_ext HXV.out HZP.out.1 _ _ _ _ _ _)
            rw [hY6] at HFIN ⊢
            clear hY6 HH3 HXV HSV
            have hS0 := HQ.out Y6 HX6.out
            have v0 := cell_of HL6.out (i := 0) (u := .int .i64 0) rfl
            have f0 := frozen_of HL6.out 0
            have v1 := cell_of HL6.out (i := 1) (u := .int .i64 0) rfl
            have f1 := frozen_of HL6.out 1
            have v2 := cell_of HL6.out (i := 2) (u := .slice none 0 0) rfl
            have f2 := frozen_of HL6.out 2
            have v3 := cell_of HL6.out (i := 3) (u := .slice none 0 0) rfl
            have f3 := frozen_of HL6.out 3
            refine wpE_all (rs := [13]) (by kernel_rfl) (by simp) ?_
            refine AllE.cons rfl (fun K hK => ?_) AllE.nil
            simp only [List.getElem_toArray, List.getElem_cons_succ, List.getElem_cons_zero]
            go_simp
            refine hK.out _ _ ⟨fun _ => (HQ.out _ HFIN.out.ext), trivial⟩ (fun _ => ?_)
            clear hK K
            have hS0 := (HQ.out _ HFIN.out.ext)
            (try simp only [Act.put, List.setIfInBounds_toArray, List.set_cons_zero, List.set_cons_succ])
            clear v0 v1 v2 v3 f0 f1 f2 f3 hS0
            obtain ⟨Y, hY⟩ : ∃ Y, ((((Y6.setCell ⟨zl, 0, none⟩ (.int .i64 ln.fr)).setCell ⟨zl, 1, none⟩ (.int .i64 ln.un)).setCell ⟨zl, 2, none⟩ (.slice B1 m1 e1)).setCell ⟨zl, 3, none⟩ (.slice B2 m2 e2)) = Y := ⟨_, rfl⟩
            rw [hY] at HFIN ⊢
            clear hY
            have hS0 := HQ.out Y HFIN.out.ext
            refine wpE_all (rs := [14]) (by kernel_rfl) (by simp) ?_
            refine AllE.cons rfl (fun K hK => ?_) AllE.nil
            simp only [List.getElem_toArray, List.getElem_cons_succ, List.getElem_cons_zero]
            go_simp
            refine hK.out _ _ ⟨fun h => absurd h (by simp), trivial⟩ (fun _ => ?_)
            clear hK K
            (try simp only [Act.put, List.setIfInBounds_toArray, List.set_cons_zero, List.set_cons_succ])
            refine wpE_done (by kernel_rfl) ?_ _
            go_wp2_with fail
            go_meet
            case rel => exact HFIN.out
          · skip
            simp only [List.getElem_toArray, List.getElem_cons_succ, List.getElem_cons_zero]
            go_simp
            refine hK.out _ _ ⟨fun _ => (HQ.out _ (((Ext.refl _).drew.alloc (.cells #[.int .i64 0, .int .i64 0, .int .i64 0, .int .i64 0, .slice none 0 0, .slice none 0 0] 84)).alloc (.cells #[.int .i64 0, .int .i64 0, .slice none 0 0, .slice none 0 0] 86))), trivial⟩ (fun _ => ?_)
            clear hK K
            have hS0 := (HQ.out _ (((Ext.refl _).drew.alloc (.cells #[.int .i64 0, .int .i64 0, .int .i64 0, .int .i64 0, .slice none 0 0, .slice none 0 0] 84)).alloc (.cells #[.int .i64 0, .int .i64 0, .slice none 0 0, .slice none 0 0] 86)))
            (try simp only [Act.put, List.setIfInBounds_toArray, List.set_cons_zero, List.set_cons_succ])
            refine wpE_all (rs := [5]) (by kernel_rfl) (by simp) ?_
            refine AllE.cons rfl (fun K hK => ?_) AllE.nil
            simp only [List.getElem_toArray, List.getElem_cons_succ, List.getElem_cons_zero]
            go_simp
            go_at_call 44
            refine (HO.out _ (((Ext.refl _).drew.alloc (.cells #[.int .i64 0, .int .i64 0, .int .i64 0, .int .i64 0, .slice none 0 0, .slice none 0 0] 84)).alloc (.cells #[.int .i64 0, .int .i64 0, .slice none 0 0, .slice none 0 0] 86))).mono ?_
            rintro z9 wG ⟨A7, n7, c7, A8, n8, c8, B1, m1, e1, B2, m2, e2, rfl, hxG, hfu⟩
            have hcur : Ext wr wG := (((Ext.refl _).drew.alloc (.cells #[.int .i64 0, .int .i64 0, .int .i64 0, .int .i64 0, .slice none 0 0, .slice none 0 0] 84)).alloc (.cells #[.int .i64 0, .int .i64 0, .slice none 0 0, .slice none 0 0] 86)).trans hxG
            have hX8 : wr.heap.size + 2 ≤ wG.heap.size := by have h := hxG.lt; simpa using h
            replace hfu := hfu.mono (Q := fun j => wr.heap.size + 2 ≤ j) fun j hj _ => by simpa using hj
            simp only []
            refine hK.out _ _ ⟨fun _ => (HQ.out _ hcur), trivial⟩ (fun _ => ?_)
            clear hK K
            have hS0 := (HQ.out _ hcur)
            (try simp only [Act.put, List.setIfInBounds_toArray, List.set_cons_zero, List.set_cons_succ])
            refine wpE_takeS (i := 6) (d := some 67) (v := .tuple #[.agg #[.int .i64 p.num, .int .i64 p.suf, .int .i64 p.ent, .int .i64 p.ver, .slice A7 n7 c7, .slice A8 n8 c8], .agg #[.int .i64 ln.fr, .int .i64 ln.un, .slice B1 m1 e1, .slice B2 m2 e2], .bool ok]) rfl rfl (by kernel_rfl) (by kernel_rfl) (by kernel_rfl) (by kernel_rfl) (fun _ _ _ h => h) (by rfl) ?hya14 hS0 trivial ?goa14
            case hya14 =>
              intro w9 hT9
              clear hT9; go_simp
            (try simp only [Act.put, List.setIfInBounds_toArray, List.set_cons_zero, List.set_cons_succ])
            refine wpE_takeS (i := 7) (d := some 74) (v := .agg #[.int .i64 p.num, .int .i64 p.suf, .int .i64 p.ent, .int .i64 p.ver, .slice A7 n7 c7, .slice A8 n8 c8]) rfl rfl (by kernel_rfl) (by kernel_rfl) (by kernel_rfl) (by kernel_rfl) (fun _ _ _ h => h) (by rfl) ?hya15 hS0 trivial ?goa15
            case hya15 =>
              intro w9 hT9
              clear hT9; go_simp
            (try simp only [Act.put, List.setIfInBounds_toArray, List.set_cons_zero, List.set_cons_succ])
            refine wpE_takeS (i := 8) (d := some 75) (v := .agg #[.int .i64 ln.fr, .int .i64 ln.un, .slice B1 m1 e1, .slice B2 m2 e2]) rfl rfl (by kernel_rfl) (by kernel_rfl) (by kernel_rfl) (by kernel_rfl) (fun _ _ _ h => h) (by rfl) ?hya16 hS0 trivial ?goa16
            case hya16 =>
              intro w9 hT9
              clear hT9; go_simp
            (try simp only [Act.put, List.setIfInBounds_toArray, List.set_cons_zero, List.set_cons_succ])
            refine wpE_takeS (i := 9) (d := some 76) (v := .bool ok) rfl rfl (by kernel_rfl) (by kernel_rfl) (by kernel_rfl) (by kernel_rfl) (fun _ _ _ h => h) (by rfl) ?hya17 hS0 trivial ?goa17
            case hya17 =>
              intro w9 hT9
              clear hT9; go_simp
            (try simp only [Act.put, List.setIfInBounds_toArray, List.set_cons_zero, List.set_cons_succ])
            have h2 : (wG).heap[wr.heap.size]? = some (.cells #[.int .i64 0, .int .i64 0, .int .i64 0, .int .i64 0, .slice none 0 0, .slice none 0 0] 84 (0, 0)) := ((hxG.block _ (by (try simp); (try omega))).trans ((heap_alloc_old _ _ _ (by (try simp); (try omega))).trans (heap_alloc_at _ _ _ _ (by (try simp); (try omega)))))
            have h3 : (wG).heap[wr.heap.size + 1]? = some (.cells #[.int .i64 0, .int .i64 0, .slice none 0 0, .slice none 0 0] 86 (0, 0)) := ((hxG.block _ (by (try simp); (try omega))).trans (heap_alloc_at _ _ _ _ (by (try simp); (try omega))))
            obtain ⟨V, hV⟩ : ∃ V, wG = V := ⟨_, rfl⟩
            have hxV : Ext wr V := by rw [← hV]; exact hcur
            have hGV : Ext wG V := by rw [← hV]; exact (Ext.refl wG)
            obtain ⟨zp, hzp⟩ : ∃ zp, wr.heap.size = zp := ⟨_, rfl⟩
            obtain ⟨zl, hzl⟩ : ∃ zl, wr.heap.size + 1 = zl := ⟨_, rfl⟩
            rw [hV, hzp] at h2
            rw [hV, hzl] at h3
            have HFIN := Lib.hid (fd_end (ok := ok) (c7 := c7) (c8 := c8) (wr := wr) (XS := wr.heap.size + 2) hfu (by omega) hGV hxV h2 h3 (by omega) (by omega) (by omega))
            have HSV := Lib.hid (HQ.out V hxV)
            have HZP := Lib.hid (show wr.heap.size ≤ zp ∧ zp ≠ zl from ⟨by omega, by omega⟩)
            try rw [hV]
            try rw [hzl]
            try rw [hzp]
            clear hS0
            have hS0 := HSV.out
            have v0 := cell_of h2 (i := 0) (u := .int .i64 0) rfl
            have f0 := frozen_of h2 0
            have v1 := cell_of h2 (i := 1) (u := .int .i64 0) rfl
            have f1 := frozen_of h2 1
            have v2 := cell_of h2 (i := 2) (u := .int .i64 0) rfl
            have f2 := frozen_of h2 2
            have v3 := cell_of h2 (i := 3) (u := .int .i64 0) rfl
            have f3 := frozen_of h2 3
            have v4 := cell_of h2 (i := 4) (u := .slice none 0 0) rfl
            have f4 := frozen_of h2 4
            have v5 := cell_of h2 (i := 5) (u := .slice none 0 0) rfl
            have f5 := frozen_of h2 5
            have HH3 := Lib.hid h3
            have HXV := Lib.hid hxV
            clear hV hzp hzl h2 h3 hfu hxV hGV hX8 hcur
            refine wpE_all (rs := [12]) (by kernel_rfl) (by simp) ?_
            refine AllE.cons rfl (fun K hK => ?_) AllE.nil
            simp only [List.getElem_toArray, List.getElem_cons_succ, List.getElem_cons_zero]
            go_simp
            refine hK.out _ _ ⟨fun _ => (HQ.out _ (set6_ext HXV.out HZP.out.1 (.int .i64 p.num) (.int .i64 p.suf) (.int .i64 p.ent) (.int .i64 p.ver) (.slice A7 n7 c7) (.slice A8 n8 c8))), trivial⟩ (fun _ => ?_)
            clear hK K
            have hS0 := (HQ.out _ (set6_ext HXV.out HZP.out.1 (.int .i64 p.num) (.int .i64 p.suf) (.int .i64 p.ent) (.int .i64 p.ver) (.slice A7 n7 c7) (.slice A8 n8 c8)))
            (try simp only [Act.put, List.setIfInBounds_toArray, List.set_cons_zero, List.set_cons_succ])
            clear v0 v1 v2 v3 v4 v5 f0 f1 f2 f3 f4 f5 hS0
            obtain ⟨Y6, hY6⟩ : ∃ Y, ((((((V.setCell ⟨zp, 0, none⟩ (.int .i64 p.num)).setCell ⟨zp, 1, none⟩ (.int .i64 p.suf)).setCell ⟨zp, 2, none⟩ (.int .i64 p.ent)).setCell ⟨zp, 3, none⟩ (.int .i64 p.ver)).setCell ⟨zp, 4, none⟩ (.slice A7 n7 c7)).setCell ⟨zp, 5, none⟩ (.slice A8 n8 c8)) = Y := ⟨_, rfl⟩
            have HL6 := Lib.hid (show Y6.heap[zl]? = some (.cells #[.int .i64 0, .int .i64 0, .slice none 0 0, .slice none 0 0] 86 (0, 0)) by rw [← hY6]; exact set6_heap HH3.out HZP.out.2 _ _ _ _ _ _)
            have HX6 := Lib.hid (show Ext wr Y6 by rw [← hY6]; exact set6_ext HXV.out HZP.out.1 _ _ _ _ _ _)
            rw [hY6] at HFIN ⊢
            clear hY6 HH3 HXV HSV
            have hS0 := HQ.out Y6 HX6.out
            have v0 := cell_of HL6.out (i := 0) (u := .int .i64 0) rfl
            have f0 := frozen_of HL6.out 0
            have v1 := cell_of HL6.out (i := 1) (u := .int .i64 0) rfl
            have f1 := frozen_of HL6.out 1
            have v2 := cell_of HL6.out (i := 2) (u := .slice none 0 0) rfl
            have f2 := frozen_of HL6.out 2
            have v3 := cell_of HL6.out (i := 3) (u := .slice none 0 0) rfl
            have f3 := frozen_of HL6.out 3
            refine wpE_all (rs := [13]) (by kernel_rfl) (by simp) ?_
            refine AllE.cons rfl (fun K hK => ?_) AllE.nil
            simp only [List.getElem_toArray, List.getElem_cons_succ, List.getElem_cons_zero]
            go_simp
            refine hK.out _ _ ⟨fun _ => (HQ.out _ HFIN.out.ext), trivial⟩ (fun _ => ?_)
            clear hK K
            have hS0 := (HQ.out _ HFIN.out.ext)
            (try simp only [Act.put, List.setIfInBounds_toArray, List.set_cons_zero, List.set_cons_succ])
            clear v0 v1 v2 v3 f0 f1 f2 f3 hS0
            obtain ⟨Y, hY⟩ : ∃ Y, ((((Y6.setCell ⟨zl, 0, none⟩ (.int .i64 ln.fr)).setCell ⟨zl, 1, none⟩ (.int .i64 ln.un)).setCell ⟨zl, 2, none⟩ (.slice B1 m1 e1)).setCell ⟨zl, 3, none⟩ (.slice B2 m2 e2)) = Y := ⟨_, rfl⟩
            rw [hY] at HFIN ⊢
            clear hY
            have hS0 := HQ.out Y HFIN.out.ext
            refine wpE_all (rs := [14]) (by kernel_rfl) (by simp) ?_
            refine AllE.cons rfl (fun K hK => ?_) AllE.nil
            simp only [List.getElem_toArray, List.getElem_cons_succ, List.getElem_cons_zero]
            go_simp
            refine hK.out _ _ ⟨fun h => absurd h (by simp), trivial⟩ (fun _ => ?_)
            clear hK K
            (try simp only [Act.put, List.setIfInBounds_toArray, List.set_cons_zero, List.set_cons_succ])
            refine wpE_done (by kernel_rfl) ?_ _
            go_wp2_with fail
            go_meet
            case rel => exact HFIN.out
        · skip
          simp only [List.getElem_toArray, List.getElem_cons_succ, List.getElem_cons_zero]
          go_simp
          refine hK.out _ _ ⟨fun _ => (HQ.out _ ((Ext.refl _).drew.alloc (.cells #[.int .i64 0, .int .i64 0, .slice none 0 0, .slice none 0 0] 86))), trivial⟩ (fun _ => ?_)
          clear hK K
          have hS0 := (HQ.out _ ((Ext.refl _).drew.alloc (.cells #[.int .i64 0, .int .i64 0, .slice none 0 0, .slice none 0 0] 86)))
          (try simp only [Act.put, List.setIfInBounds_toArray, List.set_cons_zero, List.set_cons_succ])
          refine wpE_all (rs := [5, 10]) (by kernel_rfl) (by simp) ?_
          refine AllE.cons rfl (fun K hK => ?_) (AllE.cons rfl (fun K hK => ?_) AllE.nil)
          · skip
            simp only [List.getElem_toArray, List.getElem_cons_succ, List.getElem_cons_zero]
            go_simp
            go_at_call 44
            refine (HO.out _ ((Ext.refl _).drew.alloc (.cells #[.int .i64 0, .int .i64 0, .slice none 0 0, .slice none 0 0] 86))).mono ?_
            rintro z9 wG ⟨A7, n7, c7, A8, n8, c8, B1, m1, e1, B2, m2, e2, rfl, hxG, hfu⟩
            have hcur : Ext wr wG := ((Ext.refl _).drew.alloc (.cells #[.int .i64 0, .int .i64 0, .slice none 0 0, .slice none 0 0] 86)).trans hxG
            have hX8 : wr.heap.size + 1 ≤ wG.heap.size := by have h := hxG.lt; simpa using h
            replace hfu := hfu.mono (Q := fun j => wr.heap.size + 1 ≤ j) fun j hj _ => by simpa using hj
            simp only []
            refine hK.out _ _ ⟨fun _ => (HQ.out _ hcur), trivial⟩ (fun _ => ?_)
            clear hK K
            have hS0 := (HQ.out _ hcur)
            (try simp only [Act.put, List.setIfInBounds_toArray, List.set_cons_zero, List.set_cons_succ])
            refine wpE_takeS (i := 6) (d := some 67) (v := .tuple #[.agg #[.int .i64 p.num, .int .i64 p.suf, .int .i64 p.ent, .int .i64 p.ver, .slice A7 n7 c7, .slice A8 n8 c8], .agg #[.int .i64 ln.fr, .int .i64 ln.un, .slice B1 m1 e1, .slice B2 m2 e2], .bool ok]) rfl rfl (by kernel_rfl) (by kernel_rfl) (by kernel_rfl) (by kernel_rfl) (fun _ _ _ h => h) (by rfl) ?hya18 hS0 trivial ?goa18
            case hya18 =>
              intro w9 hT9
              clear hT9; go_simp
            (try simp only [Act.put, List.setIfInBounds_toArray, List.set_cons_zero, List.set_cons_succ])
            refine wpE_takeS (i := 7) (d := some 74) (v := .agg #[.int .i64 p.num, .int .i64 p.suf, .int .i64 p.ent, .int .i64 p.ver, .slice A7 n7 c7, .slice A8 n8 c8]) rfl rfl (by kernel_rfl) (by kernel_rfl) (by kernel_rfl) (by kernel_rfl) (fun _ _ _ h => h) (by rfl) ?hya19 hS0 trivial ?goa19
            case hya19 =>
              intro w9 hT9
              clear hT9; go_simp
            (try simp only [Act.put, List.setIfInBounds_toArray, List.set_cons_zero, List.set_cons_succ])
            refine wpE_takeS (i := 8) (d := some 75) (v := .agg #[.int .i64 ln.fr, .int .i64 ln.un, .slice B1 m1 e1, .slice B2 m2 e2]) rfl rfl (by kernel_rfl) (by kernel_rfl) (by kernel_rfl) (by kernel_rfl) (fun _ _ _ h => h) (by rfl) ?hya20 hS0 trivial ?goa20
            case hya20 =>
              intro w9 hT9
              clear hT9; go_simp
            (try simp only [Act.put, List.setIfInBounds_toArray, List.set_cons_zero, List.set_cons_succ])
            refine wpE_takeS (i := 9) (d := some 76) (v := .bool ok) rfl rfl (by kernel_rfl) (by kernel_rfl) (by kernel_rfl) (by kernel_rfl) (fun _ _ _ h => h) (by rfl) ?hya21 hS0 trivial ?goa21
            case hya21 =>
              intro w9 hT9
              clear hT9; go_simp
            (try simp only [Act.put, List.setIfInBounds_toArray, List.set_cons_zero, List.set_cons_succ])
            refine wpE_all (rs := [10]) (by kernel_rfl) (by simp) ?_
            refine AllE.cons rfl (fun K hK => ?_) AllE.nil
            simp only [List.getElem_toArray, List.getElem_cons_succ, List.getElem_cons_zero]
            go_simp
            refine hK.out _ _ ⟨fun _ => (HQ.out _ (hcur.alloc (.cells #[.int .i64 0, .int .i64 0, .int .i64 0, .int .i64 0, .slice none 0 0, .slice none 0 0] 84))), trivial⟩ (fun _ => ?_)
            clear hK K
            have hS0 := (HQ.out _ (hcur.alloc (.cells #[.int .i64 0, .int .i64 0, .int .i64 0, .int .i64 0, .slice none 0 0, .slice none 0 0] 84)))
            (try simp only [Act.put, List.setIfInBounds_toArray, List.set_cons_zero, List.set_cons_succ])
            have h2 : ((wG.alloc (.cells #[.int .i64 0, .int .i64 0, .int .i64 0, .int .i64 0, .slice none 0 0, .slice none 0 0] 84))).heap[wG.heap.size]? = some (.cells #[.int .i64 0, .int .i64 0, .int .i64 0, .int .i64 0, .slice none 0 0, .slice none 0 0] 84 (0, 0)) := (heap_alloc_at _ _ _ _ (by (try simp); (try omega)))
            have h3 : ((wG.alloc (.cells #[.int .i64 0, .int .i64 0, .int .i64 0, .int .i64 0, .slice none 0 0, .slice none 0 0] 84))).heap[wr.heap.size]? = some (.cells #[.int .i64 0, .int .i64 0, .slice none 0 0, .slice none 0 0] 86 (0, 0)) := ((heap_alloc_old _ _ _ (by (try simp); (try omega))).trans ((hxG.block _ (by (try simp); (try omega))).trans (heap_alloc_at _ _ _ _ (by (try simp); (try omega)))))
            obtain ⟨V, hV⟩ : ∃ V, (wG.alloc (.cells #[.int .i64 0, .int .i64 0, .int .i64 0, .int .i64 0, .slice none 0 0, .slice none 0 0] 84)) = V := ⟨_, rfl⟩
            have hxV : Ext wr V := by rw [← hV]; exact (hcur.alloc (.cells #[.int .i64 0, .int .i64 0, .int .i64 0, .int .i64 0, .slice none 0 0, .slice none 0 0] 84))
            have hGV : Ext wG V := by rw [← hV]; exact ((Ext.refl wG).alloc (.cells #[.int .i64 0, .int .i64 0, .int .i64 0, .int .i64 0, .slice none 0 0, .slice none 0 0] 84))
            obtain ⟨zp, hzp⟩ : ∃ zp, wG.heap.size = zp := ⟨_, rfl⟩
            obtain ⟨zl, hzl⟩ : ∃ zl, wr.heap.size = zl := ⟨_, rfl⟩
            rw [hV, hzp] at h2
            rw [hV, hzl] at h3
            have HFIN := Lib.hid (fd_end (ok := ok) (c7 := c7) (c8 := c8) (wr := wr) (XS := wr.heap.size + 1) hfu (by omega) hGV hxV h2 h3 (by omega) (by omega) (by omega))
            have HSV := Lib.hid (HQ.out V hxV)
            have HZP := Lib.hid (show wr.heap.size ≤ zp ∧ zp ≠ zl from ⟨by omega, by omega⟩)
            try rw [hV]
            try rw [hzp]
            try rw [hzl]
            clear hS0
            have hS0 := HSV.out
            have v0 := cell_of h2 (i := 0) (u := .int .i64 0) rfl
            have f0 := frozen_of h2 0
            have v1 := cell_of h2 (i := 1) (u := .int .i64 0) rfl
            have f1 := frozen_of h2 1
            have v2 := cell_of h2 (i := 2) (u := .int .i64 0) rfl
            have f2 := frozen_of h2 2
            have v3 := cell_of h2 (i := 3) (u := .int .i64 0) rfl
            have f3 := frozen_of h2 3
            have v4 := cell_of h2 (i := 4) (u := .slice none 0 0) rfl
            have f4 := frozen_of h2 4
            have v5 := cell_of h2 (i := 5) (u := .slice none 0 0) rfl
            have f5 := frozen_of h2 5
            have HH3 := Lib.hid h3
            have HXV := Lib.hid hxV
            clear hV hzp hzl h2 h3 hfu hxV hGV hX8 hcur
            refine wpE_all (rs := [12]) (by kernel_rfl) (by simp) ?_
            refine AllE.cons rfl (fun K hK => ?_) AllE.nil
            simp only [List.getElem_toArray, List.getElem_cons_succ, List.getElem_cons_zero]
            go_simp
            refine hK.out _ _ ⟨fun _ => (HQ.out _ (set6_ext HXV.out HZP.out.1 (.int .i64 p.num) (.int .i64 p.suf) (.int .i64 p.ent) (.int .i64 p.ver) (.slice A7 n7 c7) (.slice A8 n8 c8))), trivial⟩ (fun _ => ?_)
            clear hK K
            have hS0 := (HQ.out _ (set6_ext HXV.out HZP.out.1 (.int .i64 p.num) (.int .i64 p.suf) (.int .i64 p.ent) (.int .i64 p.ver) (.slice A7 n7 c7) (.slice A8 n8 c8)))
            (try simp only [Act.put, List.setIfInBounds_toArray, List.set_cons_zero, List.set_cons_succ])
            clear v0 v1 v2 v3 v4 v5 f0 f1 f2 f3 f4 f5 hS0
            obtain ⟨Y6, hY6⟩ : ∃ Y, ((((((V.setCell ⟨zp, 0, none⟩ (.int .i64 p.num)).setCell ⟨zp, 1, none⟩ (.int .i64 p.suf)).setCell ⟨zp, 2, none⟩ (.int .i64 p.ent)).setCell ⟨zp, 3, none⟩ (.int .i64 p.ver)).setCell ⟨zp, 4, none⟩ (.slice A7 n7 c7)).setCell ⟨zp, 5, none⟩ (.slice A8 n8 c8)) = Y := ⟨_, rfl⟩
            have HL6 := Lib.hid (show Y6.heap[zl]? = some (.cells #[.int .i64 0, .int .i64 0, .slice none 0 0, .slice none 0 0] 86 (0, 0)) by rw [← hY6]; exact set6_heap HH3.out HZP.out.2 _ _ _ _ _ _)
            have HX6 := Lib.hid (show Ext wr Y6 by rw [← hY6]; exact set6_ext HXV.out HZP.out.1 _ _ _ _ _ _)
            rw [hY6] at HFIN ⊢
            clear hY6 HH3 HXV HSV
            have hS0 := HQ.out Y6 HX6.out
            have v0 := cell_of HL6.out (i := 0) (u := .int .i64 0) rfl
            have f0 := frozen_of HL6.out 0
            have v1 := cell_of HL6.out (i := 1) (u := .int .i64 0) rfl
            have f1 := frozen_of HL6.out 1
            have v2 := cell_of HL6.out (i := 2) (u := .slice none 0 0) rfl
            have f2 := frozen_of HL6.out 2
            have v3 := cell_of HL6.out (i := 3) (u := .slice none 0 0) rfl
            have f3 := frozen_of HL6.out 3
            refine wpE_all (rs := [13]) (by kernel_rfl) (by simp) ?_
            refine AllE.cons rfl (fun K hK => ?_) AllE.nil
            simp only [List.getElem_toArray, List.getElem_cons_succ, List.getElem_cons_zero]
            go_simp
            refine hK.out _ _ ⟨fun _ => (HQ.out _ HFIN.out.ext), trivial⟩ (fun _ => ?_)
            clear hK K
            have hS0 := (HQ.out _ HFIN.out.ext)
            (try simp only [Act.put, List.setIfInBounds_toArray, List.set_cons_zero, List.set_cons_succ])
            clear v0 v1 v2 v3 f0 f1 f2 f3 hS0
            obtain ⟨Y, hY⟩ : ∃ Y, ((((Y6.setCell ⟨zl, 0, none⟩ (.int .i64 ln.fr)).setCell ⟨zl, 1, none⟩ (.int .i64 ln.un)).setCell ⟨zl, 2, none⟩ (.slice B1 m1 e1)).setCell ⟨zl, 3, none⟩ (.slice B2 m2 e2)) = Y := ⟨_, rfl⟩
            rw [hY] at HFIN ⊢
            clear hY
            have hS0 := HQ.out Y HFIN.out.ext
            refine wpE_all (rs := [14]) (by kernel_rfl) (by simp) ?_
            refine AllE.cons rfl (fun K hK => ?_) AllE.nil
            simp only [List.getElem_toArray, List.getElem_cons_succ, List.getElem_cons_zero]
            go_simp
            refine hK.out _ _ ⟨fun h => absurd h (by simp), trivial⟩ (fun _ => ?_)
            clear hK K
            (try simp only [Act.put, List.setIfInBounds_toArray, List.set_cons_zero, List.set_cons_succ])
            refine wpE_done (by kernel_rfl) ?_ _
            go_wp2_with fail
            go_meet
            case rel => exact HFIN.out
          · skip
            simp only [List.getElem_toArray, List.getElem_cons_succ, List.getElem_cons_zero]
            go_simp
            refine hK.out _ _ ⟨fun _ => (HQ.out _ (((Ext.refl _).drew.alloc (.cells #[.int .i64 0, .int .i64 0, .slice none 0 0, .slice none 0 0] 86)).alloc (.cells #[.int .i64 0, .int .i64 0, .int .i64 0, .int .i64 0, .slice none 0 0, .slice none 0 0] 84))), trivial⟩ (fun _ => ?_)
            clear hK K
            have hS0 := (HQ.out _ (((Ext.refl _).drew.alloc (.cells #[.int .i64 0, .int .i64 0, .slice none 0 0, .slice none 0 0] 86)).alloc (.cells #[.int .i64 0, .int .i64 0, .int .i64 0, .int .i64 0, .slice none 0 0, .slice none 0 0] 84)))
            (try simp only [Act.put, List.setIfInBounds_toArray, List.set_cons_zero, List.set_cons_succ])
            refine wpE_all (rs := [5]) (by kernel_rfl) (by simp) ?_
            refine AllE.cons rfl (fun K hK => ?_) AllE.nil
            simp only [List.getElem_toArray, List.getElem_cons_succ, List.getElem_cons_zero]
            go_simp
            go_at_call 44
            refine (HO.out _ (((Ext.refl _).drew.alloc (.cells #[.int .i64 0, .int .i64 0, .slice none 0 0, .slice none 0 0] 86)).alloc (.cells #[.int .i64 0, .int .i64 0, .int .i64 0, .int .i64 0, .slice none 0 0, .slice none 0 0] 84))).mono ?_
            rintro z9 wG ⟨A7, n7, c7, A8, n8, c8, B1, m1, e1, B2, m2, e2, rfl, hxG, hfu⟩
            have hcur : Ext wr wG := (((Ext.refl _).drew.alloc (.cells #[.int .i64 0, .int .i64 0, .slice none 0 0, .slice none 0 0] 86)).alloc (.cells #[.int .i64 0, .int .i64 0, .int .i64 0, .int .i64 0, .slice none 0 0, .slice none 0 0] 84)).trans hxG
            have hX8 : wr.heap.size + 2 ≤ wG.heap.size := by have h := hxG.lt; simpa using h
            replace hfu := hfu.mono (Q := fun j => wr.heap.size + 2 ≤ j) fun j hj _ => by simpa using hj
            simp only []
            refine hK.out _ _ ⟨fun _ => (HQ.out _ hcur), trivial⟩ (fun _ => ?_)
            clear hK K
            have hS0 := (HQ.out _ hcur)
            (try simp only [Act.put, List.setIfInBounds_toArray, List.set_cons_zero, List.set_cons_succ])
            refine wpE_takeS (i := 6) (d := some 67) (v := .tuple #[.agg #[.int .i64 p.num, .int .i64 p.suf, .int .i64 p.ent, .int .i64 p.ver, .slice A7 n7 c7, .slice A8 n8 c8], .agg #[.int .i64 ln.fr, .int .i64 ln.un, .slice B1 m1 e1, .slice B2 m2 e2], .bool ok]) rfl rfl (by kernel_rfl) (by kernel_rfl) (by kernel_rfl) (by kernel_rfl) (fun _ _ _ h => h) (by rfl) ?hya22 hS0 trivial ?goa22
            case hya22 =>
              intro w9 hT9
              clear hT9; go_simp
            (try simp only [Act.put, List.setIfInBounds_toArray, List.set_cons_zero, List.set_cons_succ])
            refine wpE_takeS (i := 7) (d := some 74) (v := .agg #[.int .i64 p.num, .int .i64 p.suf, .int .i64 p.ent, .int .i64 p.ver, .slice A7 n7 c7, .slice A8 n8 c8]) rfl rfl (by kernel_rfl) (by kernel_rfl) (by kernel_rfl) (by kernel_rfl) (fun _ _ _ h => h) (by rfl) ?hya23 hS0 trivial ?goa23
            case hya23 =>
              intro w9 hT9
              clear hT9; go_simp
            (try simp only [Act.put, List.setIfInBounds_toArray, List.set_cons_zero, List.set_cons_succ])
            refine wpE_takeS (i := 8) (d := some 75) (v := .agg #[.int .i64 ln.fr, .int .i64 ln.un, .slice B1 m1 e1, .slice B2 m2 e2]) rfl rfl (by kernel_rfl) (by kernel_rfl) (by kernel_rfl) (by kernel_rfl) (fun _ _ _ h => h) (by rfl) ?hya24 hS0 trivial ?goa24
            case hya24 =>
              intro w9 hT9
              clear hT9; go_simp
            (try simp only [Act.put, List.setIfInBounds_toArray, List.set_cons_zero, List.set_cons_succ])
            refine wpE_takeS (i := 9) (d := some 76) (v := .bool ok) rfl rfl (by kernel_rfl) (by kernel_rfl) (by kernel_rfl) (by kernel_rfl) (fun _ _ _ h => h) (by rfl) ?hya25 hS0 trivial ?goa25
            case hya25 =>
              intro w9 hT9
              clear hT9; go_simp
            (try simp only [Act.put, List.setIfInBounds_toArray, List.set_cons_zero, List.set_cons_succ])
            have h2 : (wG).heap[wr.heap.size + 1]? = some (.cells #[.int .i64 0, .int .i64 0, .int .i64 0, .int .i64 0, .slice none 0 0, .slice none 0 0] 84 (0, 0)) := ((hxG.block _ (by (try simp); (try omega))).trans (heap_alloc_at _ _ _ _ (by (try simp); (try omega))))
            have h3 : (wG).heap[wr.heap.size]? = some (.cells #[.int .i64 0, .int .i64 0, .slice none 0 0, .slice none 0 0] 86 (0, 0)) := ((hxG.block _ (by (try simp); (try omega))).trans ((heap_alloc_old _ _ _ (by (try simp); (try omega))).trans (heap_alloc_at _ _ _ _ (by (try simp); (try omega)))))
            obtain ⟨V, hV⟩ : ∃ V, wG = V := ⟨_, rfl⟩
            have hxV : Ext wr V := by rw [← hV]; exact hcur
            have hGV : Ext wG V := by rw [← hV]; exact (Ext.refl wG)
            obtain ⟨zp, hzp⟩ : ∃ zp, wr.heap.size + 1 = zp := ⟨_, rfl⟩
            obtain ⟨zl, hzl⟩ : ∃ zl, wr.heap.size = zl := ⟨_, rfl⟩
            rw [hV, hzp] at h2
            rw [hV, hzl] at h3
            have HFIN := Lib.hid (fd_end (ok := ok) (c7 := c7) (c8 := c8) (wr := wr) (XS := wr.heap.size + 2) hfu (by omega) hGV hxV h2 h3 (by omega) (by omega) (by omega))
            have HSV := Lib.hid (HQ.out V hxV)
            have HZP := Lib.hid (show wr.heap.size ≤ zp ∧ zp ≠ zl from ⟨by omega, by omega⟩)
            try rw [hV]
            try rw [hzp]
            try rw [hzl]
            clear hS0
            have hS0 := HSV.out
            have v0 := cell_of h2 (i := 0) (u := .int .i64 0) rfl
            have f0 := frozen_of h2 0
            have v1 := cell_of h2 (i := 1) (u := .int .i64 0) rfl
            have f1 := frozen_of h2 1
            have v2 := cell_of h2 (i := 2) (u := .int .i64 0) rfl
            have f2 := frozen_of h2 2
            have v3 := cell_of h2 (i := 3) (u := .int .i64 0) rfl
            have f3 := frozen_of h2 3
            have v4 := cell_of h2 (i := 4) (u := .slice none 0 0) rfl
            have f4 := frozen_of h2 4
            have v5 := cell_of h2 (i := 5) (u := .slice none 0 0) rfl
            have f5 := frozen_of h2 5
            have HH3 := Lib.hid h3
            have HXV := Lib.hid hxV
            clear hV hzp hzl h2 h3 hfu hxV hGV hX8 hcur
            refine wpE_all (rs := [12]) (by kernel_rfl) (by simp) ?_
            refine AllE.cons rfl (fun K hK => ?_) AllE.nil
            simp only [List.getElem_toArray, List.getElem_cons_succ, List.getElem_cons_zero]
            go_simp
            refine hK.out _ _ ⟨fun _ => (HQ.out _ (set6_ext HXV.out HZP.out.1 (.int .i64 p.num) (.int .i64 p.suf) (.int .i64 p.ent) (.int .i64 p.ver) (.slice A7 n7 c7) (.slice A8 n8 c8))), trivial⟩ (fun _ => ?_)
            clear hK K
            have hS0 := (HQ.out _ (set6_ext HXV.out HZP.out.1 (.int .i64 p.num) (.int .i64 p.suf) (.int .i64 p.ent) (.int .i64 p.ver) (.slice A7 n7 c7) (.slice A8 n8 c8)))
            (try simp only [Act.put, List.setIfInBounds_toArray, List.set_cons_zero, List.set_cons_succ])
            clear v0 v1 v2 v3 v4 v5 f0 f1 f2 f3 f4 f5 hS0
            obtain ⟨Y6, hY6⟩ : ∃ Y, ((((((V.setCell ⟨zp, 0, none⟩ (.int .i64 p.num)).setCell ⟨zp, 1, none⟩ (.int .i64 p.suf)).setCell ⟨zp, 2, none⟩ (.int .i64 p.ent)).setCell ⟨zp, 3, none⟩ (.int .i64 p.ver)).setCell ⟨zp, 4, none⟩ (.slice A7 n7 c7)).setCell ⟨zp, 5, none⟩ (.slice A8 n8 c8)) = Y := ⟨_, rfl⟩
            have HL6 := Lib.hid (show Y6.heap[zl]? = some (.cells #[.int .i64 0, .int .i64 0, .slice none 0 0, .slice none 0 0] 86 (0, 0)) by rw [← hY6]; exact set6_heap HH3.out HZP.out.2 _ _ _ _ _ _)
            have HX6 := Lib.hid (show Ext wr Y6 by rw [← hY6]; exact set6_ext HXV.out HZP.out.1 _ _ _ _ _ _)
            rw [hY6] at HFIN ⊢
            clear hY6 HH3 HXV HSV
            have hS0 := HQ.out Y6 HX6.out
            have v0 := cell_of HL6.out (i := 0) (u := .int .i64 0) rfl
            have f0 := frozen_of HL6.out 0
            have v1 := cell_of HL6.out (i := 1) (u := .int .i64 0) rfl
            have f1 := frozen_of HL6.out 1
            have v2 := cell_of HL6.out (i := 2) (u := .slice none 0 0) rfl
            have f2 := frozen_of HL6.out 2
            have v3 := cell_of HL6.out (i := 3) (u := .slice none 0 0) rfl
            have f3 := frozen_of HL6.out 3
            refine wpE_all (rs := [13]) (by kernel_rfl) (by simp) ?_
            refine AllE.cons rfl (fun K hK => ?_) AllE.nil
            simp only [List.getElem_toArray, List.getElem_cons_succ, List.getElem_cons_zero]
            go_simp
            refine hK.out _ _ ⟨fun _ => (HQ.out _ HFIN.out.ext), trivial⟩ (fun _ => ?_)
            clear hK K
            have hS0 := (HQ.out _ HFIN.out.ext)
            (try simp only [Act.put, List.setIfInBounds_toArray, List.set_cons_zero, List.set_cons_succ])
            clear v0 v1 v2 v3 f0 f1 f2 f3 hS0
            obtain ⟨Y, hY⟩ : ∃ Y, ((((Y6.setCell ⟨zl, 0, none⟩ (.int .i64 ln.fr)).setCell ⟨zl, 1, none⟩ (.int .i64 ln.un)).setCell ⟨zl, 2, none⟩ (.slice B1 m1 e1)).setCell ⟨zl, 3, none⟩ (.slice B2 m2 e2)) = Y := ⟨_, rfl⟩
            rw [hY] at HFIN ⊢
            clear hY
            have hS0 := HQ.out Y HFIN.out.ext
            refine wpE_all (rs := [14]) (by kernel_rfl) (by simp) ?_
            refine AllE.cons rfl (fun K hK => ?_) AllE.nil
            simp only [List.getElem_toArray, List.getElem_cons_succ, List.getElem_cons_zero]
            go_simp
            refine hK.out _ _ ⟨fun h => absurd h (by simp), trivial⟩ (fun _ => ?_)
            clear hK K
            (try simp only [Act.put, List.setIfInBounds_toArray, List.set_cons_zero, List.set_cons_succ])
            refine wpE_done (by kernel_rfl) ?_ _
            go_wp2_with fail
            go_meet
            case rel => exact HFIN.out
      case rest =>
        obtain ⟨y7, y9', A7, n7, c7, A8, n8, c8, A9, n9, c9, A2, n2, c2', rfl, rfl, rfl, hk8, hk9, hfq, hx7⟩ := hcut
        rename World => wm
        have HK8' := Lib.hid hk8
        have HK9' := Lib.hid hk9
        have HFQ := Lib.hid hfq
        have HXM := Lib.hid (HXR.out.trans hx7)
        clear hk8 hk9 hfq hx7
        go_upto_region 11 with (fail)
        go_cut [25, 26, 27] (fun s25 s26 s27 wx => FdB wm p ln ok s25 s26 s27 wx)
        case first =>
          have HQ := Lib.hid (fun X (hX : Ext wm X) => HCE.out X (HXM.out.trans hX))
          have HO := Lib.hid (fun X (hX : Ext wm X) => HO2.out X (HXM.out.trans hX))
          have hS0 : (fun X : World => (X.cell? ⟨zb, 0, none⟩ = some (.int .i64 b.ms) ∧ X.cell? ⟨zb, 1, none⟩ = some (.int .i64 b.ht) ∧ X.cell? ⟨zb, 2, none⟩ = some (.slice A1 n c1)) ∧ X.cell? ⟨zq, i * 4, none⟩ = some (.int .i64 d0) ∧ X.cell? ⟨zq, i * 4 + 1, none⟩ = some (.int .i64 d1) ∧ X.cell? ⟨zq, i * 4 + 2, none⟩ = some (.int .i64 d2) ∧ X.cell? ⟨zq, i * 4 + 3, none⟩ = some (.int .i64 d3)) wm.drew := HQ.out _ (Ext.refl _).drew
          refine wp_region_E (fun X : World => (X.cell? ⟨zb, 0, none⟩ = some (.int .i64 b.ms) ∧ X.cell? ⟨zb, 1, none⟩ = some (.int .i64 b.ht) ∧ X.cell? ⟨zb, 2, none⟩ = some (.slice A1 n c1)) ∧ X.cell? ⟨zq, i * 4, none⟩ = some (.int .i64 d0) ∧ X.cell? ⟨zq, i * 4 + 1, none⟩ = some (.int .i64 d1) ∧ X.cell? ⟨zq, i * 4 + 2, none⟩ = some (.int .i64 d2) ∧ X.cell? ⟨zq, i * 4 + 3, none⟩ = some (.int .i64 d3)) (fun _ => True) (fun i => i == 14) (by kernel_rfl) ?_
          refine wpE_takeS (i := 0) (d := some 78) (v := .agg #[.int .i64 b.ms, .int .i64 b.ht, .slice A1 n c1]) rfl rfl (by kernel_rfl) (by kernel_rfl) (by kernel_rfl) (by kernel_rfl) (fun _ _ _ h => h) (by rfl) ?hyb1 hS0 trivial ?gob1
          case hyb1 =>
            intro w9 hT9
            obtain ⟨⟨y0, y1, y2⟩, y3, y4, y5, y6⟩ := hT9; go_simp
          (try simp only [Act.put, List.setIfInBounds_toArray, List.set_cons_zero, List.set_cons_succ])
          refine wpE_takeS (i := 1) (d := some 79) (v := .slice (some ⟨zq, 0, none⟩) 4 4) rfl rfl (by kernel_rfl) (by kernel_rfl) (by kernel_rfl) (by kernel_rfl) (fun _ _ _ h => h) (by rfl) ?hyb2 hS0 trivial ?gob2
          case hyb2 =>
            intro w9 hT9
            clear hT9; go_simp
          (try simp only [Act.put, List.setIfInBounds_toArray, List.set_cons_zero, List.set_cons_succ])
          refine wpE_takeS (i := 2) (d := some 80) (v := .int .i64 (i : Int)) rfl rfl (by kernel_rfl) (by kernel_rfl) (by kernel_rfl) (by kernel_rfl) (fun _ _ _ h => h) (by rfl) ?hyb3 hS0 trivial ?gob3
          case hyb3 =>
            intro w9 hT9
            clear hT9; go_simp
          (try simp only [Act.put, List.setIfInBounds_toArray, List.set_cons_zero, List.set_cons_succ])
          refine wpE_takeS (i := 3) (d := some 81) (v := .pointer (some ⟨zq, i * 4, none⟩)) rfl rfl (by kernel_rfl) (by kernel_rfl) (by kernel_rfl) (by kernel_rfl) (fun _ _ _ h => h) (by rfl) ?hyb4 hS0 trivial ?gob4
          case hyb4 =>
            intro w9 hT9
            clear hT9; go_simp
          (try simp only [Act.put, List.setIfInBounds_toArray, List.set_cons_zero, List.set_cons_succ])
          refine wpE_takeS (i := 4) (d := some 82) (v := .agg #[.int .i64 d0, .int .i64 d1, .int .i64 d2, .int .i64 d3]) rfl rfl (by kernel_rfl) (by kernel_rfl) (by kernel_rfl) (by kernel_rfl) (fun _ _ _ h => h) (by rfl) ?hyb5 hS0 trivial ?gob5
          case hyb5 =>
            intro w9 hT9
            obtain ⟨⟨y0, y1, y2⟩, y3, y4, y5, y6⟩ := hT9; go_simp
          (try simp only [Act.put, List.setIfInBounds_toArray, List.set_cons_zero, List.set_cons_succ])
          refine wpE_all (rs := [5, 10, 11]) (by kernel_rfl) (by simp) ?_
          refine AllE.cons rfl (fun K hK => ?_) (AllE.cons rfl (fun K hK => ?_) (AllE.cons rfl (fun K hK => ?_) AllE.nil))
          · skip
            simp only [List.getElem_toArray, List.getElem_cons_succ, List.getElem_cons_zero]
            go_simp
            go_at_call 45
            refine (HO.out _ (Ext.refl _).drew).mono ?_
            rintro z9 wG ⟨A7, n7, c7, A8, n8, c8, B1, m1, e1, B2, m2, e2, rfl, hxG, hfu⟩
            have hcur : Ext wm wG := (Ext.refl _).drew.trans hxG
            have hX8 : wm.heap.size ≤ wG.heap.size := by have h := hxG.lt; simpa using h
            replace hfu := hfu.mono (Q := fun j => wm.heap.size ≤ j) fun j hj _ => by simpa using hj
            simp only []
            refine hK.out _ _ ⟨fun _ => (HQ.out _ hcur), trivial⟩ (fun _ => ?_)
            clear hK K
            have hS0 := (HQ.out _ hcur)
            (try simp only [Act.put, List.setIfInBounds_toArray, List.set_cons_zero, List.set_cons_succ])
            refine wpE_takeS (i := 6) (d := some 77) (v := .tuple #[.agg #[.int .i64 p.num, .int .i64 p.suf, .int .i64 p.ent, .int .i64 p.ver, .slice A7 n7 c7, .slice A8 n8 c8], .agg #[.int .i64 ln.fr, .int .i64 ln.un, .slice B1 m1 e1, .slice B2 m2 e2], .bool ok]) rfl rfl (by kernel_rfl) (by kernel_rfl) (by kernel_rfl) (by kernel_rfl) (fun _ _ _ h => h) (by rfl) ?hyb6 hS0 trivial ?gob6
            case hyb6 =>
              intro w9 hT9
              clear hT9; go_simp
            (try simp only [Act.put, List.setIfInBounds_toArray, List.set_cons_zero, List.set_cons_succ])
            refine wpE_takeS (i := 7) (d := some 84) (v := .agg #[.int .i64 p.num, .int .i64 p.suf, .int .i64 p.ent, .int .i64 p.ver, .slice A7 n7 c7, .slice A8 n8 c8]) rfl rfl (by kernel_rfl) (by kernel_rfl) (by kernel_rfl) (by kernel_rfl) (fun _ _ _ h => h) (by rfl) ?hyb7 hS0 trivial ?gob7
            case hyb7 =>
              intro w9 hT9
              clear hT9; go_simp
            (try simp only [Act.put, List.setIfInBounds_toArray, List.set_cons_zero, List.set_cons_succ])
            refine wpE_takeS (i := 8) (d := some 85) (v := .agg #[.int .i64 ln.fr, .int .i64 ln.un, .slice B1 m1 e1, .slice B2 m2 e2]) rfl rfl (by kernel_rfl) (by kernel_rfl) (by kernel_rfl) (by kernel_rfl) (fun _ _ _ h => h) (by rfl) ?hyb8 hS0 trivial ?gob8
            case hyb8 =>
              intro w9 hT9
              clear hT9; go_simp
            (try simp only [Act.put, List.setIfInBounds_toArray, List.set_cons_zero, List.set_cons_succ])
            refine wpE_takeS (i := 9) (d := some 86) (v := .bool ok) rfl rfl (by kernel_rfl) (by kernel_rfl) (by kernel_rfl) (by kernel_rfl) (fun _ _ _ h => h) (by rfl) ?hyb9 hS0 trivial ?gob9
            case hyb9 =>
              intro w9 hT9
              clear hT9; go_simp
            (try simp only [Act.put, List.setIfInBounds_toArray, List.set_cons_zero, List.set_cons_succ])
            refine wpE_all (rs := [10, 11]) (by kernel_rfl) (by simp) ?_
            refine AllE.cons rfl (fun K hK => ?_) (AllE.cons rfl (fun K hK => ?_) AllE.nil)
            · skip
              simp only [List.getElem_toArray, List.getElem_cons_succ, List.getElem_cons_zero]
              go_simp
              refine hK.out _ _ ⟨fun _ => (HQ.out _ (hcur.alloc (.cells #[.int .i64 0, .int .i64 0, .int .i64 0, .int .i64 0, .slice none 0 0, .slice none 0 0] 84))), trivial⟩ (fun _ => ?_)
              clear hK K
              have hS0 := (HQ.out _ (hcur.alloc (.cells #[.int .i64 0, .int .i64 0, .int .i64 0, .int .i64 0, .slice none 0 0, .slice none 0 0] 84)))
              (try simp only [Act.put, List.setIfInBounds_toArray, List.set_cons_zero, List.set_cons_succ])
              refine wpE_all (rs := [11]) (by kernel_rfl) (by simp) ?_
              refine AllE.cons rfl (fun K hK => ?_) AllE.nil
              simp only [List.getElem_toArray, List.getElem_cons_succ, List.getElem_cons_zero]
              go_simp
              refine hK.out _ _ ⟨fun _ => (HQ.out _ ((hcur.alloc (.cells #[.int .i64 0, .int .i64 0, .int .i64 0, .int .i64 0, .slice none 0 0, .slice none 0 0] 84)).alloc (.cells #[.int .i64 0, .int .i64 0, .slice none 0 0, .slice none 0 0] 86))), trivial⟩ (fun _ => ?_)
              clear hK K
              have hS0 := (HQ.out _ ((hcur.alloc (.cells #[.int .i64 0, .int .i64 0, .int .i64 0, .int .i64 0, .slice none 0 0, .slice none 0 0] 84)).alloc (.cells #[.int .i64 0, .int .i64 0, .slice none 0 0, .slice none 0 0] 86)))
              (try simp only [Act.put, List.setIfInBounds_toArray, List.set_cons_zero, List.set_cons_succ])
              have h2 : (((wG.alloc (.cells #[.int .i64 0, .int .i64 0, .int .i64 0, .int .i64 0, .slice none 0 0, .slice none 0 0] 84)).alloc (.cells #[.int .i64 0, .int .i64 0, .slice none 0 0, .slice none 0 0] 86))).heap[wG.heap.size]? = some (.cells #[.int .i64 0, .int .i64 0, .int .i64 0, .int .i64 0, .slice none 0 0, .slice none 0 0] 84 (0, 0)) := ((heap_alloc_old _ _ _ (by (try simp); (try omega))).trans (heap_alloc_at _ _ _ _ (by (try simp); (try omega))))
              have h3 : (((wG.alloc (.cells #[.int .i64 0, .int .i64 0, .int .i64 0, .int .i64 0, .slice none 0 0, .slice none 0 0] 84)).alloc (.cells #[.int .i64 0, .int .i64 0, .slice none 0 0, .slice none 0 0] 86))).heap[wG.heap.size + 1]? = some (.cells #[.int .i64 0, .int .i64 0, .slice none 0 0, .slice none 0 0] 86 (0, 0)) := (heap_alloc_at _ _ _ _ (by (try simp); (try omega)))
              obtain ⟨V, hV⟩ : ∃ V, ((wG.alloc (.cells #[.int .i64 0, .int .i64 0, .int .i64 0, .int .i64 0, .slice none 0 0, .slice none 0 0] 84)).alloc (.cells #[.int .i64 0, .int .i64 0, .slice none 0 0, .slice none 0 0] 86)) = V := ⟨_, rfl⟩
              have hxV : Ext wm V := by rw [← hV]; exact ((hcur.alloc (.cells #[.int .i64 0, .int .i64 0, .int .i64 0, .int .i64 0, .slice none 0 0, .slice none 0 0] 84)).alloc (.cells #[.int .i64 0, .int .i64 0, .slice none 0 0, .slice none 0 0] 86))
              have hGV : Ext wG V := by rw [← hV]; exact (((Ext.refl wG).alloc (.cells #[.int .i64 0, .int .i64 0, .int .i64 0, .int .i64 0, .slice none 0 0, .slice none 0 0] 84)).alloc (.cells #[.int .i64 0, .int .i64 0, .slice none 0 0, .slice none 0 0] 86))
              obtain ⟨zp, hzp⟩ : ∃ zp, wG.heap.size = zp := ⟨_, rfl⟩
              obtain ⟨zl, hzl⟩ : ∃ zl, wG.heap.size + 1 = zl := ⟨_, rfl⟩
              rw [hV, hzp] at h2
              rw [hV, hzl] at h3
              have HFIN := Lib.hid (fd_end (ok := ok) (c7 := c7) (c8 := c8) (wr := wm) (XS := wm.heap.size) hfu (by omega) hGV hxV h2 h3 (by omega) (by omega) (by omega))
              have HSV := Lib.hid (HQ.out V hxV)
              have HZP := Lib.hid (show wm.heap.size ≤ zp ∧ zp ≠ zl from ⟨by omega, by omega⟩)
              try rw [hV]
              try rw [hzl]
              try rw [hzp]
              clear hS0
              have hS0 := HSV.out
              have v0 := cell_of h2 (i := 0) (u := .int .i64 0) rfl
              have f0 := frozen_of h2 0
              have v1 := cell_of h2 (i := 1) (u := .int .i64 0) rfl
              have f1 := frozen_of h2 1
              have v2 := cell_of h2 (i := 2) (u := .int .i64 0) rfl
              have f2 := frozen_of h2 2
              have v3 := cell_of h2 (i := 3) (u := .int .i64 0) rfl
              have f3 := frozen_of h2 3
              have v4 := cell_of h2 (i := 4) (u := .slice none 0 0) rfl
              have f4 := frozen_of h2 4
              have v5 := cell_of h2 (i := 5) (u := .slice none 0 0) rfl
              have f5 := frozen_of h2 5
              have HH3 := Lib.hid h3
              have HXV := Lib.hid hxV
              clear hV hzp hzl h2 h3 hfu hxV hGV hX8 hcur
              refine wpE_all (rs := [12]) (by kernel_rfl) (by simp) ?_
              refine AllE.cons rfl (fun K hK => ?_) AllE.nil
              simp only [List.getElem_toArray, List.getElem_cons_succ, List.getElem_cons_zero]
              go_simp
              refine hK.out _ _ ⟨fun _ => (HQ.out _ (set6_ext HXV.out HZP.out.1 (.int .i64 p.num) (.int .i64 p.suf) (.int .i64 p.ent) (.int .i64 p.ver) (.slice A7 n7 c7) (.slice A8 n8 c8))), trivial⟩ (fun _ => ?_)
              clear hK K
              have hS0 := (HQ.out _ (set6_ext HXV.out HZP.out.1 (.int .i64 p.num) (.int .i64 p.suf) (.int .i64 p.ent) (.int .i64 p.ver) (.slice A7 n7 c7) (.slice A8 n8 c8)))
              (try simp only [Act.put, List.setIfInBounds_toArray, List.set_cons_zero, List.set_cons_succ])
              clear v0 v1 v2 v3 v4 v5 f0 f1 f2 f3 f4 f5 hS0
              obtain ⟨Y6, hY6⟩ : ∃ Y, ((((((V.setCell ⟨zp, 0, none⟩ (.int .i64 p.num)).setCell ⟨zp, 1, none⟩ (.int .i64 p.suf)).setCell ⟨zp, 2, none⟩ (.int .i64 p.ent)).setCell ⟨zp, 3, none⟩ (.int .i64 p.ver)).setCell ⟨zp, 4, none⟩ (.slice A7 n7 c7)).setCell ⟨zp, 5, none⟩ (.slice A8 n8 c8)) = Y := ⟨_, rfl⟩
              have HL6 := Lib.hid (show Y6.heap[zl]? = some (.cells #[.int .i64 0, .int .i64 0, .slice none 0 0, .slice none 0 0] 86 (0, 0)) by rw [← hY6]; exact set6_heap HH3.out HZP.out.2 _ _ _ _ _ _)
              have HX6 := Lib.hid (show Ext wm Y6 by rw [← hY6]; exact set6_ext HXV.out HZP.out.1 _ _ _ _ _ _)
              rw [hY6] at HFIN ⊢
              clear hY6 HH3 HXV HSV
              have hS0 := HQ.out Y6 HX6.out
              have v0 := cell_of HL6.out (i := 0) (u := .int .i64 0) rfl
              have f0 := frozen_of HL6.out 0
              have v1 := cell_of HL6.out (i := 1) (u := .int .i64 0) rfl
              have f1 := frozen_of HL6.out 1
              have v2 := cell_of HL6.out (i := 2) (u := .slice none 0 0) rfl
              have f2 := frozen_of HL6.out 2
              have v3 := cell_of HL6.out (i := 3) (u := .slice none 0 0) rfl
              have f3 := frozen_of HL6.out 3
              refine wpE_all (rs := [13]) (by kernel_rfl) (by simp) ?_
              refine AllE.cons rfl (fun K hK => ?_) AllE.nil
              simp only [List.getElem_toArray, List.getElem_cons_succ, List.getElem_cons_zero]
              go_simp
              refine hK.out _ _ ⟨fun _ => (HQ.out _ HFIN.out.ext), trivial⟩ (fun _ => ?_)
              clear hK K
              have hS0 := (HQ.out _ HFIN.out.ext)
              (try simp only [Act.put, List.setIfInBounds_toArray, List.set_cons_zero, List.set_cons_succ])
              clear v0 v1 v2 v3 f0 f1 f2 f3 hS0
              obtain ⟨Y, hY⟩ : ∃ Y, ((((Y6.setCell ⟨zl, 0, none⟩ (.int .i64 ln.fr)).setCell ⟨zl, 1, none⟩ (.int .i64 ln.un)).setCell ⟨zl, 2, none⟩ (.slice B1 m1 e1)).setCell ⟨zl, 3, none⟩ (.slice B2 m2 e2)) = Y := ⟨_, rfl⟩
              rw [hY] at HFIN ⊢
              clear hY
              have hS0 := HQ.out Y HFIN.out.ext
              refine wpE_all (rs := [14]) (by kernel_rfl) (by simp) ?_
              refine AllE.cons rfl (fun K hK => ?_) AllE.nil
              simp only [List.getElem_toArray, List.getElem_cons_succ, List.getElem_cons_zero]
              go_simp
              refine hK.out _ _ ⟨fun h => absurd h (by simp), trivial⟩ (fun _ => ?_)
              clear hK K
              (try simp only [Act.put, List.setIfInBounds_toArray, List.set_cons_zero, List.set_cons_succ])
              refine wpE_done (by kernel_rfl) ?_ _
              go_wp2_with fail
              go_meet
              case rel => exact HFIN.out
            · skip
              simp only [List.getElem_toArray, List.getElem_cons_succ, List.getElem_cons_zero]
              go_simp
              refine hK.out _ _ ⟨fun _ => (HQ.out _ (hcur.alloc (.cells #[.int .i64 0, .int .i64 0, .slice none 0 0, .slice none 0 0] 86))), trivial⟩ (fun _ => ?_)
              clear hK K
              have hS0 := (HQ.out _ (hcur.alloc (.cells #[.int .i64 0, .int .i64 0, .slice none 0 0, .slice none 0 0] 86)))
              (try simp only [Act.put, List.setIfInBounds_toArray, List.set_cons_zero, List.set_cons_succ])
              refine wpE_all (rs := [10]) (by kernel_rfl) (by simp) ?_
              refine AllE.cons rfl (fun K hK => ?_) AllE.nil
              simp only [List.getElem_toArray, List.getElem_cons_succ, List.getElem_cons_zero]
              go_simp
              refine hK.out _ _ ⟨fun _ => (HQ.out _ ((hcur.alloc (.cells #[.int .i64 0, .int .i64 0, .slice none 0 0, .slice none 0 0] 86)).alloc (.cells #[.int .i64 0, .int .i64 0, .int .i64 0, .int .i64 0, .slice none 0 0, .slice none 0 0] 84))), trivial⟩ (fun _ => ?_)
              clear hK K
              have hS0 := (HQ.out _ ((hcur.alloc (.cells #[.int .i64 0, .int .i64 0, .slice none 0 0, .slice none 0 0] 86)).alloc (.cells #[.int .i64 0, .int .i64 0, .int .i64 0, .int .i64 0, .slice none 0 0, .slice none 0 0] 84)))
              (try simp only [Act.put, List.setIfInBounds_toArray, List.set_cons_zero, List.set_cons_succ])
              have h2 : (((wG.alloc (.cells #[.int .i64 0, .int .i64 0, .slice none 0 0, .slice none 0 0] 86)).alloc (.cells #[.int .i64 0, .int .i64 0, .int .i64 0, .int .i64 0, .slice none 0 0, .slice none 0 0] 84))).heap[wG.heap.size + 1]? = some (.cells #[.int .i64 0, .int .i64 0, .int .i64 0, .int .i64 0, .slice none 0 0, .slice none 0 0] 84 (0, 0)) := (heap_alloc_at _ _ _ _ (by (try simp); (try omega)))
              have h3 : (((wG.alloc (.cells #[.int .i64 0, .int .i64 0, .slice none 0 0, .slice none 0 0] 86)).alloc (.cells #[.int .i64 0, .int .i64 0, .int .i64 0, .int .i64 0, .slice none 0 0, .slice none 0 0] 84))).heap[wG.heap.size]? = some (.cells #[.int .i64 0, .int .i64 0, .slice none 0 0, .slice none 0 0] 86 (0, 0)) := ((heap_alloc_old _ _ _ (by (try simp); (try omega))).trans (heap_alloc_at _ _ _ _ (by (try simp); (try omega))))
              obtain ⟨V, hV⟩ : ∃ V, ((wG.alloc (.cells #[.int .i64 0, .int .i64 0, .slice none 0 0, .slice none 0 0] 86)).alloc (.cells #[.int .i64 0, .int .i64 0, .int .i64 0, .int .i64 0, .slice none 0 0, .slice none 0 0] 84)) = V := ⟨_, rfl⟩
              have hxV : Ext wm V := by rw [← hV]; exact ((hcur.alloc (.cells #[.int .i64 0, .int .i64 0, .slice none 0 0, .slice none 0 0] 86)).alloc (.cells #[.int .i64 0, .int .i64 0, .int .i64 0, .int .i64 0, .slice none 0 0, .slice none 0 0] 84))
              have hGV : Ext wG V := by rw [← hV]; exact (((Ext.refl wG).alloc (.cells #[.int .i64 0, .int .i64 0, .slice none 0 0, .slice none 0 0] 86)).alloc (.cells #[.int .i64 0, .int .i64 0, .int .i64 0, .int .i64 0, .slice none 0 0, .slice none 0 0] 84))
              obtain ⟨zp, hzp⟩ : ∃ zp, wG.heap.size + 1 = zp := ⟨_, rfl⟩
              obtain ⟨zl, hzl⟩ : ∃ zl, wG.heap.size = zl := ⟨_, rfl⟩
              rw [hV, hzp] at h2
              rw [hV, hzl] at h3
              have HFIN := Lib.hid (fd_end (ok := ok) (c7 := c7) (c8 := c8) (wr := wm) (XS := wm.heap.size) hfu (by omega) hGV hxV h2 h3 (by omega) (by omega) (by omega))
              have HSV := Lib.hid (HQ.out V hxV)
              have HZP := Lib.hid (show wm.heap.size ≤ zp ∧ zp ≠ zl from ⟨by omega, by omega⟩)
              try rw [hV]
              try rw [hzp]
              try rw [hzl]
              clear hS0
              have hS0 := HSV.out
              have v0 := cell_of h2 (i := 0) (u := .int .i64 0) rfl
              have f0 := frozen_of h2 0
              have v1 := cell_of h2 (i := 1) (u := .int .i64 0) rfl
              have f1 := frozen_of h2 1
              have v2 := cell_of h2 (i := 2) (u := .int .i64 0) rfl
              have f2 := frozen_of h2 2
              have v3 := cell_of h2 (i := 3) (u := .int .i64 0) rfl
              have f3 := frozen_of h2 3
              have v4 := cell_of h2 (i := 4) (u := .slice none 0 0) rfl
              have f4 := frozen_of h2 4
              have v5 := cell_of h2 (i := 5) (u := .slice none 0 0) rfl
              have f5 := frozen_of h2 5
              have HH3 := Lib.hid h3
              have HXV := Lib.hid hxV
              clear hV hzp hzl h2 h3 hfu hxV hGV hX8 hcur
              refine wpE_all (rs := [12]) (by kernel_rfl) (by simp) ?_
              refine AllE.cons rfl (fun K hK => ?_) AllE.nil
              simp only [List.getElem_toArray, List.getElem_cons_succ, List.getElem_cons_zero]
              go_simp
              refine hK.out _ _ ⟨fun _ => (HQ.out _ (set6_ext HXV.out HZP.out.1 (.int .i64 p.num) (.int .i64 p.suf) (.int .i64 p.ent) (.int .i64 p.ver) (.slice A7 n7 c7) (.slice A8 n8 c8))), trivial⟩ (fun _ => ?_)
              clear hK K
              have hS0 := (HQ.out _ (set6_ext HXV.out HZP.out.1 (.int .i64 p.num) (.int .i64 p.suf) (.int .i64 p.ent) (.int .i64 p.ver) (.slice A7 n7 c7) (.slice A8 n8 c8)))
              (try simp only [Act.put, List.setIfInBounds_toArray, List.set_cons_zero, List.set_cons_succ])
              clear v0 v1 v2 v3 v4 v5 f0 f1 f2 f3 f4 f5 hS0
              obtain ⟨Y6, hY6⟩ : ∃ Y, ((((((V.setCell ⟨zp, 0, none⟩ (.int .i64 p.num)).setCell ⟨zp, 1, none⟩ (.int .i64 p.suf)).setCell ⟨zp, 2, none⟩ (.int .i64 p.ent)).setCell ⟨zp, 3, none⟩ (.int .i64 p.ver)).setCell ⟨zp, 4, none⟩ (.slice A7 n7 c7)).setCell ⟨zp, 5, none⟩ (.slice A8 n8 c8)) = Y := ⟨_, rfl⟩
              have HL6 := Lib.hid (show Y6.heap[zl]? = some (.cells #[.int .i64 0, .int .i64 0, .slice none 0 0, .slice none 0 0] 86 (0, 0)) by rw [← hY6]; exact set6_heap HH3.out HZP.out.2 _ _ _ _ _ _)
              have HX6 := Lib.hid (show Ext wm Y6 by rw [← hY6]; exact set6_ext HXV.out HZP.out.1 _ _ _ _ _ _)
              rw [hY6] at HFIN ⊢
              clear hY6 HH3 HXV HSV
              have hS0 := HQ.out Y6 HX6.out
              have v0 := cell_of HL6.out (i := 0) (u := .int .i64 0) rfl
              have f0 := frozen_of HL6.out 0
              have v1 := cell_of HL6.out (i := 1) (u := .int .i64 0) rfl
              have f1 := frozen_of HL6.out 1
              have v2 := cell_of HL6.out (i := 2) (u := .slice none 0 0) rfl
              have f2 := frozen_of HL6.out 2
              have v3 := cell_of HL6.out (i := 3) (u := .slice none 0 0) rfl
              have f3 := frozen_of HL6.out 3
              refine wpE_all (rs := [13]) (by kernel_rfl) (by simp) ?_
              refine AllE.cons rfl (fun K hK => ?_) AllE.nil
              simp only [List.getElem_toArray, List.getElem_cons_succ, List.getElem_cons_zero]
              go_simp
              refine hK.out _ _ ⟨fun _ => (HQ.out _ HFIN.out.ext), trivial⟩ (fun _ => ?_)
              clear hK K
              have hS0 := (HQ.out _ HFIN.out.ext)
              (try simp only [Act.put, List.setIfInBounds_toArray, List.set_cons_zero, List.set_cons_succ])
              clear v0 v1 v2 v3 f0 f1 f2 f3 hS0
              obtain ⟨Y, hY⟩ : ∃ Y, ((((Y6.setCell ⟨zl, 0, none⟩ (.int .i64 ln.fr)).setCell ⟨zl, 1, none⟩ (.int .i64 ln.un)).setCell ⟨zl, 2, none⟩ (.slice B1 m1 e1)).setCell ⟨zl, 3, none⟩ (.slice B2 m2 e2)) = Y := ⟨_, rfl⟩
              rw [hY] at HFIN ⊢
              clear hY
              have hS0 := HQ.out Y HFIN.out.ext
              refine wpE_all (rs := [14]) (by kernel_rfl) (by simp) ?_
              refine AllE.cons rfl (fun K hK => ?_) AllE.nil
              simp only [List.getElem_toArray, List.getElem_cons_succ, List.getElem_cons_zero]
              go_simp
              refine hK.out _ _ ⟨fun h => absurd h (by simp), trivial⟩ (fun _ => ?_)
              clear hK K
              (try simp only [Act.put, List.setIfInBounds_toArray, List.set_cons_zero, List.set_cons_succ])
              refine wpE_done (by kernel_rfl) ?_ _
              go_wp2_with fail
              go_meet
              case rel => exact HFIN.out
          · skip
            simp only [List.getElem_toArray, List.getElem_cons_succ, List.getElem_cons_zero]
            go_simp
            refine hK.out _ _ ⟨fun _ => (HQ.out _ ((Ext.refl _).drew.alloc (.cells #[.int .i64 0, .int .i64 0, .int .i64 0, .int .i64 0, .slice none 0 0, .slice none 0 0] 84))), trivial⟩ (fun _ => ?_)
            clear hK K
            have hS0 := (HQ.out _ ((Ext.refl _).drew.alloc (.cells #[.int .i64 0, .int .i64 0, .int .i64 0, .int .i64 0, .slice none 0 0, .slice none 0 0] 84)))
            (try simp only [Act.put, List.setIfInBounds_toArray, List.set_cons_zero, List.set_cons_succ])
            refine wpE_all (rs := [5, 11]) (by kernel_rfl) (by simp) ?_
            refine AllE.cons rfl (fun K hK => ?_) (AllE.cons rfl (fun K hK => ?_) AllE.nil)
            · skip
              simp only [List.getElem_toArray, List.getElem_cons_succ, List.getElem_cons_zero]
              go_simp
              go_at_call 45
              refine (HO.out _ ((Ext.refl _).drew.alloc (.cells #[.int .i64 0, .int .i64 0, .int .i64 0, .int .i64 0, .slice none 0 0, .slice none 0 0] 84))).mono ?_
              rintro z9 wG ⟨A7, n7, c7, A8, n8, c8, B1, m1, e1, B2, m2, e2, rfl, hxG, hfu⟩
              have hcur : Ext wm wG := ((Ext.refl _).drew.alloc (.cells #[.int .i64 0, .int .i64 0, .int .i64 0, .int .i64 0, .slice none 0 0, .slice none 0 0] 84)).trans hxG
              have hX8 : wm.heap.size + 1 ≤ wG.heap.size := by have h := hxG.lt; simpa using h
              replace hfu := hfu.mono (Q := fun j => wm.heap.size + 1 ≤ j) fun j hj _ => by simpa using hj
              simp only []
              refine hK.out _ _ ⟨fun _ => (HQ.out _ hcur), trivial⟩ (fun _ => ?_)
              clear hK K
              have hS0 := (HQ.out _ hcur)
              (try simp only [Act.put, List.setIfInBounds_toArray, List.set_cons_zero, List.set_cons_succ])
              refine wpE_takeS (i := 6) (d := some 77) (v := .tuple #[.agg #[.int .i64 p.num, .int .i64 p.suf, .int .i64 p.ent, .int .i64 p.ver, .slice A7 n7 c7, .slice A8 n8 c8], .agg #[.int .i64 ln.fr, .int .i64 ln.un, .slice B1 m1 e1, .slice B2 m2 e2], .bool ok]) rfl rfl (by kernel_rfl) (by kernel_rfl) (by kernel_rfl) (by kernel_rfl) (fun _ _ _ h => h) (by rfl) ?hyb10 hS0 trivial ?gob10
              case hyb10 =>
                intro w9 hT9
                clear hT9; go_simp
              (try simp only [Act.put, List.setIfInBounds_toArray, List.set_cons_zero, List.set_cons_succ])
              refine wpE_takeS (i := 7) (d := some 84) (v := .agg #[.int .i64 p.num, .int .i64 p.suf, .int .i64 p.ent, .int .i64 p.ver, .slice A7 n7 c7, .slice A8 n8 c8]) rfl rfl (by kernel_rfl) (by kernel_rfl) (by kernel_rfl) (by kernel_rfl) (fun _ _ _ h => h) (by rfl) ?hyb11 hS0 trivial ?gob11
              case hyb11 =>
                intro w9 hT9
                clear hT9; go_simp
              (try simp only [Act.put, List.setIfInBounds_toArray, List.set_cons_zero, List.set_cons_succ])
              refine wpE_takeS (i := 8) (d := some 85) (v := .agg #[.int .i64 ln.fr, .int .i64 ln.un, .slice B1 m1 e1, .slice B2 m2 e2]) rfl rfl (by kernel_rfl) (by kernel_rfl) (by kernel_rfl) (by kernel_rfl) (fun _ _ _ h => h) (by rfl) ?hyb12 hS0 trivial ?gob12
              case hyb12 =>
                intro w9 hT9
                clear hT9; go_simp
              (try simp only [Act.put, List.setIfInBounds_toArray, List.set_cons_zero, List.set_cons_succ])
              refine wpE_takeS (i := 9) (d := some 86) (v := .bool ok) rfl rfl (by kernel_rfl) (by kernel_rfl) (by kernel_rfl) (by kernel_rfl) (fun _ _ _ h => h) (by rfl) ?hyb13 hS0 trivial ?gob13
              case hyb13 =>
                intro w9 hT9
                clear hT9; go_simp
              (try simp only [Act.put, List.setIfInBounds_toArray, List.set_cons_zero, List.set_cons_succ])
              refine wpE_all (rs := [11]) (by kernel_rfl) (by simp) ?_
              refine AllE.cons rfl (fun K hK => ?_) AllE.nil
              simp only [List.getElem_toArray, List.getElem_cons_succ, List.getElem_cons_zero]
              go_simp
              refine hK.out _ _ ⟨fun _ => (HQ.out _ (hcur.alloc (.cells #[.int .i64 0, .int .i64 0, .slice none 0 0, .slice none 0 0] 86))), trivial⟩ (fun _ => ?_)
              clear hK K
              have hS0 := (HQ.out _ (hcur.alloc (.cells #[.int .i64 0, .int .i64 0, .slice none 0 0, .slice none 0 0] 86)))
              (try simp only [Act.put, List.setIfInBounds_toArray, List.set_cons_zero, List.set_cons_succ])
              have h2 : ((wG.alloc (.cells #[.int .i64 0, .int .i64 0, .slice none 0 0, .slice none 0 0] 86))).heap[wm.heap.size]? = some (.cells #[.int .i64 0, .int .i64 0, .int .i64 0, .int .i64 0, .slice none 0 0, .slice none 0 0] 84 (0, 0)) := ((heap_alloc_old _ _ _ (by (try simp); (try omega))).trans ((hxG.block _ (by (try simp); (try omega))).trans (heap_alloc_at _ _ _ _ (by (try simp); (try omega)))))
              have h3 : ((wG.alloc (.cells #[.int .i64 0, .int .i64 0, .slice none 0 0, .slice none 0 0] 86))).heap[wG.heap.size]? = some (.cells #[.int .i64 0, .int .i64 0, .slice none 0 0, .slice none 0 0] 86 (0, 0)) := (heap_alloc_at _ _ _ _ (by (try simp); (try omega)))
              obtain ⟨V, hV⟩ : ∃ V, (wG.alloc (.cells #[.int .i64 0, .int .i64 0, .slice none 0 0, .slice none 0 0] 86)) = V := ⟨_, rfl⟩
              have hxV : Ext wm V := by rw [← hV]; exact (hcur.alloc (.cells #[.int .i64 0, .int .i64 0, .slice none 0 0, .slice none 0 0] 86))
              have hGV : Ext wG V := by rw [← hV]; exact ((Ext.refl wG).alloc (.cells #[.int .i64 0, .int .i64 0, .slice none 0 0, .slice none 0 0] 86))
              obtain ⟨zp, hzp⟩ : ∃ zp, wm.heap.size = zp := ⟨_, rfl⟩
              obtain ⟨zl, hzl⟩ : ∃ zl, wG.heap.size = zl := ⟨_, rfl⟩
              rw [hV, hzp] at h2
              rw [hV, hzl] at h3
              have HFIN := Lib.hid (fd_end (ok := ok) (c7 := c7) (c8 := c8) (wr := wm) (XS := wm.heap.size + 1) hfu (by omega) hGV hxV h2 h3 (by omega) (by omega) (by omega))
              have HSV := Lib.hid (HQ.out V hxV)
              have HZP := Lib.hid (show wm.heap.size ≤ zp ∧ zp ≠ zl from ⟨by omega, by omega⟩)
              try rw [hV]
              try rw [hzp]
              try rw [hzl]
              clear hS0
              have hS0 := HSV.out
              have v0 := cell_of h2 (i := 0) (u := .int .i64 0) rfl
              have f0 := frozen_of h2 0
              have v1 := cell_of h2 (i := 1) (u := .int .i64 0) rfl
              have f1 := frozen_of h2 1
              have v2 := cell_of h2 (i := 2) (u := .int .i64 0) rfl
              have f2 := frozen_of h2 2
              have v3 := cell_of h2 (i := 3) (u := .int .i64 0) rfl
              have f3 := frozen_of h2 3
              have v4 := cell_of h2 (i := 4) (u := .slice none 0 0) rfl
              have f4 := frozen_of h2 4
              have v5 := cell_of h2 (i := 5) (u := .slice none 0 0) rfl
              have f5 := frozen_of h2 5
              have HH3 := Lib.hid h3
              have HXV := Lib.hid hxV
              clear hV hzp hzl h2 h3 hfu hxV hGV hX8 hcur
              refine wpE_all (rs := [12]) (by kernel_rfl) (by simp) ?_
              refine AllE.cons rfl (fun K hK => ?_) AllE.nil
              simp only [List.getElem_toArray, List.getElem_cons_succ, List.getElem_cons_zero]
              go_simp
              refine hK.out _ _ ⟨fun _ => (HQ.out _ (set6_ext HXV.out HZP.out.1 (.int .i64 p.num) (.int .i64 p.suf) (.int .i64 p.ent) (.int .i64 p.ver) (.slice A7 n7 c7) (.slice A8 n8 c8))), trivial⟩ (fun _ => ?_)
              clear hK K
              have hS0 := (HQ.out _ (set6_ext HXV.out HZP.out.1 (.int .i64 p.num) (.int .i64 p.suf) (.int .i64 p.ent) (.int .i64 p.ver) (.slice A7 n7 c7) (.slice A8 n8 c8)))
              (try simp only [Act.put, List.setIfInBounds_toArray, List.set_cons_zero, List.set_cons_succ])
              clear v0 v1 v2 v3 v4 v5 f0 f1 f2 f3 f4 f5 hS0
              obtain ⟨Y6, hY6⟩ : ∃ Y, ((((((V.setCell ⟨zp, 0, none⟩ (.int .i64 p.num)).setCell ⟨zp, 1, none⟩ (.int .i64 p.suf)).setCell ⟨zp, 2, none⟩ (.int .i64 p.ent)).setCell ⟨zp, 3, none⟩ (.int .i64 p.ver)).setCell ⟨zp, 4, none⟩ (.slice A7 n7 c7)).setCell ⟨zp, 5, none⟩ (.slice A8 n8 c8)) = Y := ⟨_, rfl⟩
              have HL6 := Lib.hid (show Y6.heap[zl]? = some (.cells #[.int .i64 0, .int .i64 0, .slice none 0 0, .slice none 0 0] 86 (0, 0)) by rw [← hY6]; exact set6_heap HH3.out HZP.out.2 _ _ _ _ _ _)
              have HX6 := Lib.hid (show Ext wm Y6 by rw [← hY6]; exact set6_ext HXV.out HZP.out.1 _ _ _ _ _ _)
              rw [hY6] at HFIN ⊢
              clear hY6 HH3 HXV HSV
              have hS0 := HQ.out Y6 HX6.out
              have v0 := cell_of HL6.out (i := 0) (u := .int .i64 0) rfl
              have f0 := frozen_of HL6.out 0
              have v1 := cell_of HL6.out (i := 1) (u := .int .i64 0) rfl
              have f1 := frozen_of HL6.out 1
              have v2 := cell_of HL6.out (i := 2) (u := .slice none 0 0) rfl
              have f2 := frozen_of HL6.out 2
              have v3 := cell_of HL6.out (i := 3) (u := .slice none 0 0) rfl
              have f3 := frozen_of HL6.out 3
              refine wpE_all (rs := [13]) (by kernel_rfl) (by simp) ?_
              refine AllE.cons rfl (fun K hK => ?_) AllE.nil
              simp only [List.getElem_toArray, List.getElem_cons_succ, List.getElem_cons_zero]
              go_simp
              refine hK.out _ _ ⟨fun _ => (HQ.out _ HFIN.out.ext), trivial⟩ (fun _ => ?_)
              clear hK K
              have hS0 := (HQ.out _ HFIN.out.ext)
              (try simp only [Act.put, List.setIfInBounds_toArray, List.set_cons_zero, List.set_cons_succ])
              clear v0 v1 v2 v3 f0 f1 f2 f3 hS0
              obtain ⟨Y, hY⟩ : ∃ Y, ((((Y6.setCell ⟨zl, 0, none⟩ (.int .i64 ln.fr)).setCell ⟨zl, 1, none⟩ (.int .i64 ln.un)).setCell ⟨zl, 2, none⟩ (.slice B1 m1 e1)).setCell ⟨zl, 3, none⟩ (.slice B2 m2 e2)) = Y := ⟨_, rfl⟩
              rw [hY] at HFIN ⊢
              clear hY
              have hS0 := HQ.out Y HFIN.out.ext
              refine wpE_all (rs := [14]) (by kernel_rfl) (by simp) ?_
              refine AllE.cons rfl (fun K hK => ?_) AllE.nil
              simp only [List.getElem_toArray, List.getElem_cons_succ, List.getElem_cons_zero]
              go_simp
              refine hK.out _ _ ⟨fun h => absurd h (by simp), trivial⟩ (fun _ => ?_)
              clear hK K
              (try simp only [Act.put, List.setIfInBounds_toArray, List.set_cons_zero, List.set_cons_succ])
              refine wpE_done (by kernel_rfl) ?_ _
              go_wp2_with fail
              go_meet
              case rel => exact HFIN.out
            · skip
              simp only [List.getElem_toArray, List.getElem_cons_succ, List.getElem_cons_zero]
              go_simp
              refine hK.out _ _ ⟨fun _ => (HQ.out _ (((Ext.refl _).drew.alloc (.cells #[.int .i64 0, .int .i64 0, .int .i64 0, .int .i64 0, .slice none 0 0, .slice none 0 0] 84)).alloc (.cells #[.int .i64 0, .int .i64 0, .slice none 0 0, .slice none 0 0] 86))), trivial⟩ (fun _ => ?_)
              clear hK K
              have hS0 := (HQ.out _ (((Ext.refl _).drew.alloc (.cells #[.int .i64 0, .int .i64 0, .int .i64 0, .int .i64 0, .slice none 0 0, .slice none 0 0] 84)).alloc (.cells #[.int .i64 0, .int .i64 0, .slice none 0 0, .slice none 0 0] 86)))
              (try simp only [Act.put, List.setIfInBounds_toArray, List.set_cons_zero, List.set_cons_succ])
              refine wpE_all (rs := [5]) (by kernel_rfl) (by simp) ?_
              refine AllE.cons rfl (fun K hK => ?_) AllE.nil
              simp only [List.getElem_toArray, List.getElem_cons_succ, List.getElem_cons_zero]
              go_simp
              go_at_call 45
              refine (HO.out _ (((Ext.refl _).drew.alloc (.cells #[.int .i64 0, .int .i64 0, .int .i64 0, .int .i64 0, .slice none 0 0, .slice none 0 0] 84)).alloc (.cells #[.int .i64 0, .int .i64 0, .slice none 0 0, .slice none 0 0] 86))).mono ?_
              rintro z9 wG ⟨A7, n7, c7, A8, n8, c8, B1, m1, e1, B2, m2, e2, rfl, hxG, hfu⟩
              have hcur : Ext wm wG := (((Ext.refl _).drew.alloc (.cells #[.int .i64 0, .int .i64 0, .int .i64 0, .int .i64 0, .slice none 0 0, .slice none 0 0] 84)).alloc (.cells #[.int .i64 0, .int .i64 0, .slice none 0 0, .slice none 0 0] 86)).trans hxG
              have hX8 : wm.heap.size + 2 ≤ wG.heap.size := by have h := hxG.lt; simpa using h
              replace hfu := hfu.mono (Q := fun j => wm.heap.size + 2 ≤ j) fun j hj _ => by simpa using hj
              simp only []
              refine hK.out _ _ ⟨fun _ => (HQ.out _ hcur), trivial⟩ (fun _ => ?_)
              clear hK K
              have hS0 := (HQ.out _ hcur)
              (try simp only [Act.put, List.setIfInBounds_toArray, List.set_cons_zero, List.set_cons_succ])
              refine wpE_takeS (i := 6) (d := some 77) (v := .tuple #[.agg #[.int .i64 p.num, .int .i64 p.suf, .int .i64 p.ent, .int .i64 p.ver, .slice A7 n7 c7, .slice A8 n8 c8], .agg #[.int .i64 ln.fr, .int .i64 ln.un, .slice B1 m1 e1, .slice B2 m2 e2], .bool ok]) rfl rfl (by kernel_rfl) (by kernel_rfl) (by kernel_rfl) (by kernel_rfl) (fun _ _ _ h => h) (by rfl) ?hyb14 hS0 trivial ?gob14
              case hyb14 =>
                intro w9 hT9
                clear hT9; go_simp
              (try simp only [Act.put, List.setIfInBounds_toArray, List.set_cons_zero, List.set_cons_succ])
              refine wpE_takeS (i := 7) (d := some 84) (v := .agg #[.int .i64 p.num, .int .i64 p.suf, .int .i64 p.ent, .int .i64 p.ver, .slice A7 n7 c7, .slice A8 n8 c8]) rfl rfl (by kernel_rfl) (by kernel_rfl) (by kernel_rfl) (by kernel_rfl) (fun _ _ _ h => h) (by rfl) ?hyb15 hS0 trivial ?gob15
              case hyb15 =>
                intro w9 hT9
                clear hT9; go_simp
              (try simp only [Act.put, List.setIfInBounds_toArray, List.set_cons_zero, List.set_cons_succ])
              refine wpE_takeS (i := 8) (d := some 85) (v := .agg #[.int .i64 ln.fr, .int .i64 ln.un, .slice B1 m1 e1, .slice B2 m2 e2]) rfl rfl (by kernel_rfl) (by kernel_rfl) (by kernel_rfl) (by kernel_rfl) (fun _ _ _ h => h) (by rfl) ?hyb16 hS0 trivial ?gob16
              case hyb16 =>
                intro w9 hT9
                clear hT9; go_simp
              (try simp only [Act.put, List.setIfInBounds_toArray, List.set_cons_zero, List.set_cons_succ])
              refine wpE_takeS (i := 9) (d := some 86) (v := .bool ok) rfl rfl (by kernel_rfl) (by kernel_rfl) (by kernel_rfl) (by kernel_rfl) (fun _ _ _ h => h) (by rfl) ?hyb17 hS0 trivial ?gob17
              case hyb17 =>
                intro w9 hT9
                clear hT9; go_simp
              (try simp only [Act.put, List.setIfInBounds_toArray, List.set_cons_zero, List.set_cons_succ])
              have h2 : (wG).heap[wm.heap.size]? = some (.cells #[.int .i64 0, .int .i64 0, .int .i64 0, .int .i64 0, .slice none 0 0, .slice none 0 0] 84 (0, 0)) := ((hxG.block _ (by (try simp); (try omega))).trans ((heap_alloc_old _ _ _ (by (try simp); (try omega))).trans (heap_alloc_at _ _ _ _ (by (try simp); (try omega)))))
              have h3 : (wG).heap[wm.heap.size + 1]? = some (.cells #[.int .i64 0, .int .i64 0, .slice none 0 0, .slice none 0 0] 86 (0, 0)) := ((hxG.block _ (by (try simp); (try omega))).trans (heap_alloc_at _ _ _ _ (by (try simp); (try omega))))
              obtain ⟨V, hV⟩ : ∃ V, wG = V := ⟨_, rfl⟩
              have hxV : Ext wm V := by rw [← hV]; exact hcur
              have hGV : Ext wG V := by rw [← hV]; exact (Ext.refl wG)
              obtain ⟨zp, hzp⟩ : ∃ zp, wm.heap.size = zp := ⟨_, rfl⟩
              obtain ⟨zl, hzl⟩ : ∃ zl, wm.heap.size + 1 = zl := ⟨_, rfl⟩
              rw [hV, hzp] at h2
              rw [hV, hzl] at h3
              have HFIN := Lib.hid (fd_end (ok := ok) (c7 := c7) (c8 := c8) (wr := wm) (XS := wm.heap.size + 2) hfu (by omega) hGV hxV h2 h3 (by omega) (by omega) (by omega))
              have HSV := Lib.hid (HQ.out V hxV)
              have HZP := Lib.hid (show wm.heap.size ≤ zp ∧ zp ≠ zl from ⟨by omega, by omega⟩)
              try rw [hV]
              try rw [hzl]
              try rw [hzp]
              clear hS0
              have hS0 := HSV.out
              have v0 := cell_of h2 (i := 0) (u := .int .i64 0) rfl
              have f0 := frozen_of h2 0
              have v1 := cell_of h2 (i := 1) (u := .int .i64 0) rfl
              have f1 := frozen_of h2 1
              have v2 := cell_of h2 (i := 2) (u := .int .i64 0) rfl
              have f2 := frozen_of h2 2
              have v3 := cell_of h2 (i := 3) (u := .int .i64 0) rfl
              have f3 := frozen_of h2 3
              have v4 := cell_of h2 (i := 4) (u := .slice none 0 0) rfl
              have f4 := frozen_of h2 4
              have v5 := cell_of h2 (i := 5) (u := .slice none 0 0) rfl
              have f5 := frozen_of h2 5
              have HH3 := Lib.hid h3
              have HXV := Lib.hid hxV
              clear hV hzp hzl h2 h3 hfu hxV hGV hX8 hcur
              refine wpE_all (rs := [12]) (by kernel_rfl) (by simp) ?_
              refine AllE.cons rfl (fun K hK => ?_) AllE.nil
              simp only [List.getElem_toArray, List.getElem_cons_succ, List.getElem_cons_zero]
              go_simp
              refine hK.out _ _ ⟨fun _ => (HQ.out _ (set6_ext HXV.out HZP.out.1 (.int .i64 p.num) (.int .i64 p.suf) (.int .i64 p.ent) (.int .i64 p.ver) (.slice A7 n7 c7) (.slice A8 n8 c8))), trivial⟩ (fun _ => ?_)
              clear hK K
              have hS0 := (HQ.out _ (set6_ext HXV.out HZP.out.1 (.int .i64 p.num) (.int .i64 p.suf) (.int .i64 p.ent) (.int .i64 p.ver) (.slice A7 n7 c7) (.slice A8 n8 c8)))
              (try simp only [Act.put, List.setIfInBounds_toArray, List.set_cons_zero, List.set_cons_succ])
              clear v0 v1 v2 v3 v4 v5 f0 f1 f2 f3 f4 f5 hS0
              obtain ⟨Y6, hY6⟩ : ∃ Y, ((((((V.setCell ⟨zp, 0, none⟩ (.int .i64 p.num)).setCell ⟨zp, 1, none⟩ (.int .i64 p.suf)).setCell ⟨zp, 2, none⟩ (.int .i64 p.ent)).setCell ⟨zp, 3, none⟩ (.int .i64 p.ver)).setCell ⟨zp, 4, none⟩ (.slice A7 n7 c7)).setCell ⟨zp, 5, none⟩ (.slice A8 n8 c8)) = Y := ⟨_, rfl⟩
              have HL6 := Lib.hid (show Y6.heap[zl]? = some (.cells #[.int .i64 0, .int .i64 0, .slice none 0 0, .slice none 0 0] 86 (0, 0)) by rw [← hY6]; exact set6_heap HH3.out HZP.out.2 _ _ _ _ _ _)
              have HX6 := Lib.hid (show Ext wm Y6 by rw [← hY6]; exact set6_ext HXV.out HZP.out.1 _ _ _ _ _ _)
              rw [hY6] at HFIN ⊢
              clear hY6 HH3 HXV HSV
              have hS0 := HQ.out Y6 HX6.out
              have v0 := cell_of HL6.out (i := 0) (u := .int .i64 0) rfl
              have f0 := frozen_of HL6.out 0
              have v1 := cell_of HL6.out (i := 1) (u := .int .i64 0) rfl
              have f1 := frozen_of HL6.out 1
              have v2 := cell_of HL6.out (i := 2) (u := .slice none 0 0) rfl
              have f2 := frozen_of HL6.out 2
              have v3 := cell_of HL6.out (i := 3) (u := .slice none 0 0) rfl
              have f3 := frozen_of HL6.out 3
              refine wpE_all (rs := [13]) (by kernel_rfl) (by simp) ?_
              refine AllE.cons rfl (fun K hK => ?_) AllE.nil
              simp only [List.getElem_toArray, List.getElem_cons_succ, List.getElem_cons_zero]
              go_simp
              refine hK.out _ _ ⟨fun _ => (HQ.out _ HFIN.out.ext), trivial⟩ (fun _ => ?_)
              clear hK K
              have hS0 := (HQ.out _ HFIN.out.ext)
              (try simp only [Act.put, List.setIfInBounds_toArray, List.set_cons_zero, List.set_cons_succ])
              clear v0 v1 v2 v3 f0 f1 f2 f3 hS0
              obtain ⟨Y, hY⟩ : ∃ Y, ((((Y6.setCell ⟨zl, 0, none⟩ (.int .i64 ln.fr)).setCell ⟨zl, 1, none⟩ (.int .i64 ln.un)).setCell ⟨zl, 2, none⟩ (.slice B1 m1 e1)).setCell ⟨zl, 3, none⟩ (.slice B2 m2 e2)) = Y := ⟨_, rfl⟩
              rw [hY] at HFIN ⊢
              clear hY
              have hS0 := HQ.out Y HFIN.out.ext
              refine wpE_all (rs := [14]) (by kernel_rfl) (by simp) ?_
              refine AllE.cons rfl (fun K hK => ?_) AllE.nil
              simp only [List.getElem_toArray, List.getElem_cons_succ, List.getElem_cons_zero]
              go_simp
              refine hK.out _ _ ⟨fun h => absurd h (by simp), trivial⟩ (fun _ => ?_)
              clear hK K
              (try simp only [Act.put, List.setIfInBounds_toArray, List.set_cons_zero, List.set_cons_succ])
              refine wpE_done (by kernel_rfl) ?_ _
              go_wp2_with fail
              go_meet
              case rel => exact HFIN.out
          · skip
            simp only [List.getElem_toArray, List.getElem_cons_succ, List.getElem_cons_zero]
            go_simp
            refine hK.out _ _ ⟨fun _ => (HQ.out _ ((Ext.refl _).drew.alloc (.cells #[.int .i64 0, .int .i64 0, .slice none 0 0, .slice none 0 0] 86))), trivial⟩ (fun _ => ?_)
            clear hK K
            have hS0 := (HQ.out _ ((Ext.refl _).drew.alloc (.cells #[.int .i64 0, .int .i64 0, .slice none 0 0, .slice none 0 0] 86)))
            (try simp only [Act.put, List.setIfInBounds_toArray, List.set_cons_zero, List.set_cons_succ])
            refine wpE_all (rs := [5, 10]) (by kernel_rfl) (by simp) ?_
            refine AllE.cons rfl (fun K hK => ?_) (AllE.cons rfl (fun K hK => ?_) AllE.nil)
            · skip
              simp only [List.getElem_toArray, List.getElem_cons_succ, List.getElem_cons_zero]
              go_simp
              go_at_call 45
              refine (HO.out _ ((Ext.refl _).drew.alloc (.cells #[.int .i64 0, .int .i64 0, .slice none 0 0, .slice none 0 0] 86))).mono ?_
              rintro z9 wG ⟨A7, n7, c7, A8, n8, c8, B1, m1, e1, B2, m2, e2, rfl, hxG, hfu⟩
              have hcur : Ext wm wG := ((Ext.refl _).drew.alloc (.cells #[.int .i64 0, .int .i64 0, .slice none 0 0, .slice none 0 0] 86)).trans hxG
              have hX8 : wm.heap.size + 1 ≤ wG.heap.size := by have h := hxG.lt; simpa using h
              replace hfu := hfu.mono (Q := fun j => wm.heap.size + 1 ≤ j) fun j hj _ => by simpa using hj
              simp only []
              refine hK.out _ _ ⟨fun _ => (HQ.out _ hcur), trivial⟩ (fun _ => ?_)
              clear hK K
              have hS0 := (HQ.out _ hcur)
              (try simp only [Act.put, List.setIfInBounds_toArray, List.set_cons_zero, List.set_cons_succ])
              refine wpE_takeS (i := 6) (d := some 77) (v := .tuple #[.agg #[.int .i64 p.num, .int .i64 p.suf, .int .i64 p.ent, .int .i64 p.ver, .slice A7 n7 c7, .slice A8 n8 c8], .agg #[.int .i64 ln.fr, .int .i64 ln.un, .slice B1 m1 e1, .slice B2 m2 e2], .bool ok]) rfl rfl (by kernel_rfl) (by kernel_rfl) (by kernel_rfl) (by kernel_rfl) (fun _ _ _ h => h) (by rfl) ?hyb18 hS0 trivial ?gob18
              case hyb18 =>
                intro w9 hT9
                clear hT9; go_simp
              (try simp only [Act.put, List.setIfInBounds_toArray, List.set_cons_zero, List.set_cons_succ])
              refine wpE_takeS (i := 7) (d := some 84) (v := .agg #[.int .i64 p.num, .int .i64 p.suf, .int .i64 p.ent, .int .i64 p.ver, .slice A7 n7 c7, .slice A8 n8 c8]) rfl rfl (by kernel_rfl) (by kernel_rfl) (by kernel_rfl) (by kernel_rfl) (fun _ _ _ h => h) (by rfl) ?hyb19 hS0 trivial ?gob19
              case hyb19 =>
                intro w9 hT9
                clear hT9; go_simp
              (try simp only [Act.put, List.setIfInBounds_toArray, List.set_cons_zero, List.set_cons_succ])
              refine wpE_takeS (i := 8) (d := some 85) (v := .agg #[.int .i64 ln.fr, .int .i64 ln.un, .slice B1 m1 e1, .slice B2 m2 e2]) rfl rfl (by kernel_rfl) (by kernel_rfl) (by kernel_rfl) (by kernel_rfl) (fun _ _ _ h => h) (by rfl) ?hyb20 hS0 trivial ?gob20
              case hyb20 =>
                intro w9 hT9
                clear hT9; go_simp
              (try simp only [Act.put, List.setIfInBounds_toArray, List.set_cons_zero, List.set_cons_succ])
              refine wpE_takeS (i := 9) (d := some 86) (v := .bool ok) rfl rfl (by kernel_rfl) (by kernel_rfl) (by kernel_rfl) (by kernel_rfl) (fun _ _ _ h => h) (by rfl) ?hyb21 hS0 trivial ?gob21
              case hyb21 =>
                intro w9 hT9
                clear hT9; go_simp
              (try simp only [Act.put, List.setIfInBounds_toArray, List.set_cons_zero, List.set_cons_succ])
              refine wpE_all (rs := [10]) (by kernel_rfl) (by simp) ?_
              refine AllE.cons rfl (fun K hK => ?_) AllE.nil
              simp only [List.getElem_toArray, List.getElem_cons_succ, List.getElem_cons_zero]
              go_simp
              refine hK.out _ _ ⟨fun _ => (HQ.out _ (hcur.alloc (.cells #[.int .i64 0, .int .i64 0, .int .i64 0, .int .i64 0, .slice none 0 0, .slice none 0 0] 84))), trivial⟩ (fun _ => ?_)
              clear hK K
              have hS0 := (HQ.out _ (hcur.alloc (.cells #[.int .i64 0, .int .i64 0, .int .i64 0, .int .i64 0, .slice none 0 0, .slice none 0 0] 84)))
              (try simp only [Act.put, List.setIfInBounds_toArray, List.set_cons_zero, List.set_cons_succ])
              have h2 : ((wG.alloc (.cells #[.int .i64 0, .int .i64 0, .int .i64 0, .int .i64 0, .slice none 0 0, .slice none 0 0] 84))).heap[wG.heap.size]? = some (.cells #[.int .i64 0, .int .i64 0, .int .i64 0, .int .i64 0, .slice none 0 0, .slice none 0 0] 84 (0, 0)) := (heap_alloc_at _ _ _ _ (by (try simp); (try omega)))
              have h3 : ((wG.alloc (.cells #[.int .i64 0, .int .i64 0, .int .i64 0, .int .i64 0, .slice none 0 0, .slice none 0 0] 84))).heap[wm.heap.size]? = some (.cells #[.int .i64 0, .int .i64 0, .slice none 0 0, .slice none 0 0] 86 (0, 0)) := ((heap_alloc_old _ _ _ (by (try simp); (try omega))).trans ((hxG.block _ (by (try simp); (try omega))).trans (heap_alloc_at _ _ _ _ (by (try simp); (try omega)))))
              obtain ⟨V, hV⟩ : ∃ V, (wG.alloc (.cells #[.int .i64 0, .int .i64 0, .int .i64 0, .int .i64 0, .slice none 0 0, .slice none 0 0] 84)) = V := ⟨_, rfl⟩
              have hxV : Ext wm V := by rw [← hV]; exact (hcur.alloc (.cells #[.int .i64 0, .int .i64 0, .int .i64 0, .int .i64 0, .slice none 0 0, .slice none 0 0] 84))
              have hGV : Ext wG V := by rw [← hV]; exact ((Ext.refl wG).alloc (.cells #[.int .i64 0, .int .i64 0, .int .i64 0, .int .i64 0, .slice none 0 0, .slice none 0 0] 84))
              obtain ⟨zp, hzp⟩ : ∃ zp, wG.heap.size = zp := ⟨_, rfl⟩
              obtain ⟨zl, hzl⟩ : ∃ zl, wm.heap.size = zl := ⟨_, rfl⟩
              rw [hV, hzp] at h2
              rw [hV, hzl] at h3
              have HFIN := Lib.hid (fd_end (ok := ok) (c7 := c7) (c8 := c8) (wr := wm) (XS := wm.heap.size + 1) hfu (by omega) hGV hxV h2 h3 (by omega) (by omega) (by omega))
              have HSV := Lib.hid (HQ.out V hxV)
              have HZP := Lib.hid (show wm.heap.size ≤ zp ∧ zp ≠ zl from ⟨by omega, by omega⟩)
              try rw [hV]
              try rw [hzp]
              try rw [hzl]
              clear hS0
              have hS0 := HSV.out
              have v0 := cell_of h2 (i := 0) (u := .int .i64 0) rfl
              have f0 := frozen_of h2 0
              have v1 := cell_of h2 (i := 1) (u := .int .i64 0) rfl
              have f1 := frozen_of h2 1
              have v2 := cell_of h2 (i := 2) (u := .int .i64 0) rfl
              have f2 := frozen_of h2 2
              have v3 := cell_of h2 (i := 3) (u := .int .i64 0) rfl
              have f3 := frozen_of h2 3
              have v4 := cell_of h2 (i := 4) (u := .slice none 0 0) rfl
              have f4 := frozen_of h2 4
              have v5 := cell_of h2 (i := 5) (u := .slice none 0 0) rfl
              have f5 := frozen_of h2 5
              have HH3 := Lib.hid h3
              have HXV := Lib.hid hxV
              clear hV hzp hzl h2 h3 hfu hxV hGV hX8 hcur
              refine wpE_all (rs := [12]) (by kernel_rfl) (by simp) ?_
              refine AllE.cons rfl (fun K hK => ?_) AllE.nil
              simp only [List.getElem_toArray, List.getElem_cons_succ, List.getElem_cons_zero]
              go_simp
              refine hK.out _ _ ⟨fun _ => (HQ.out _ (set6_ext HXV.out HZP.out.1 (.int .i64 p.num) (.int .i64 p.suf) (.int .i64 p.ent) (.int .i64 p.ver) (.slice A7 n7 c7) (.slice A8 n8 c8))), trivial⟩ (fun _ => ?_)
              clear hK K
              have hS0 := (HQ.out _ (set6_ext HXV.out HZP.out.1 (.int .i64 p.num) (.int .i64 p.suf) (.int .i64 p.ent) (.int .i64 p.ver) (.slice A7 n7 c7) (.slice A8 n8 c8)))
              (try simp only [Act.put, List.setIfInBounds_toArray, List.set_cons_zero, List.set_cons_succ])
              clear v0 v1 v2 v3 v4 v5 f0 f1 f2 f3 f4 f5 hS0
              obtain ⟨Y6, hY6⟩ : ∃ Y, ((((((V.setCell ⟨zp, 0, none⟩ (.int .i64 p.num)).setCell ⟨zp, 1, none⟩ (.int .i64 p.suf)).setCell ⟨zp, 2, none⟩ (.int .i64 p.ent)).setCell ⟨zp, 3, none⟩ (.int .i64 p.ver)).setCell ⟨zp, 4, none⟩ (.slice A7 n7 c7)).setCell ⟨zp, 5, none⟩ (.slice A8 n8 c8)) = Y := ⟨_, rfl⟩
              have HL6 := Lib.hid (show Y6.heap[zl]? = some (.cells #[.int .i64 0, .int .i64 0, .slice none 0 0, .slice none 0 0] 86 (0, 0)) by rw [← hY6]; exact set6_heap HH3.out HZP.out.2 _ _ _ _ _ _)
              have HX6 := Lib.hid (show Ext wm Y6 by rw [← hY6]; exact set6_ext HXV.out HZP.out.1 _ _ _ _ _ _)
              rw [hY6] at HFIN ⊢
              clear hY6 HH3 HXV HSV
              have hS0 := HQ.out Y6 HX6.out
              have v0 := cell_of HL6.out (i := 0) (u := .int .i64 0) rfl
              have f0 := frozen_of HL6.out 0
              have v1 := cell_of HL6.out (i := 1) (u := .int .i64 0) rfl
              have f1 := frozen_of HL6.out 1
              have v2 := cell_of HL6.out (i := 2) (u := .slice none 0 0) rfl
              have f2 := frozen_of HL6.out 2
              have v3 := cell_of HL6.out (i := 3) (u := .slice none 0 0) rfl
              have f3 := frozen_of HL6.out 3
              refine wpE_all (rs := [13]) (by kernel_rfl) (by simp) ?_
              refine AllE.cons rfl (fun K hK => ?_) AllE.nil
              simp only [List.getElem_toArray, List.getElem_cons_succ, List.getElem_cons_zero]
              go_simp
              refine hK.out _ _ ⟨fun _ => (HQ.out _ HFIN.out.ext), trivial⟩ (fun _ => ?_)
              clear hK K
              have hS0 := (HQ.out _ HFIN.out.ext)
              (try simp only [Act.put, List.setIfInBounds_toArray, List.set_cons_zero, List.set_cons_succ])
              clear v0 v1 v2 v3 f0 f1 f2 f3 hS0
              obtain ⟨Y, hY⟩ : ∃ Y, ((((Y6.setCell ⟨zl, 0, none⟩ (.int .i64 ln.fr)).setCell ⟨zl, 1, none⟩ (.int .i64 ln.un)).setCell ⟨zl, 2, none⟩ (.slice B1 m1 e1)).setCell ⟨zl, 3, none⟩ (.slice B2 m2 e2)) = Y := ⟨_, rfl⟩
              rw [hY] at HFIN ⊢
              clear hY
              have hS0 := HQ.out Y HFIN.out.ext
              refine wpE_all (rs := [14]) (by kernel_rfl) (by simp) ?_
              refine AllE.cons rfl (fun K hK => ?_) AllE.nil
              simp only [List.getElem_toArray, List.getElem_cons_succ, List.getElem_cons_zero]
              go_simp
              refine hK.out _ _ ⟨fun h => absurd h (by simp), trivial⟩ (fun _ => ?_)
              clear hK K
              (try simp only [Act.put, List.setIfInBounds_toArray, List.set_cons_zero, List.set_cons_succ])
              refine wpE_done (by kernel_rfl) ?_ _
              go_wp2_with fail
              go_meet
              case rel => exact HFIN.out
            · skip
              simp only [List.getElem_toArray, List.getElem_cons_succ, List.getElem_cons_zero]
              go_simp
              refine hK.out _ _ ⟨fun _ => (HQ.out _ (((Ext.refl _).drew.alloc (.cells #[.int .i64 0, .int .i64 0, .slice none 0 0, .slice none 0 0] 86)).alloc (.cells #[.int .i64 0, .int .i64 0, .int .i64 0, .int .i64 0, .slice none 0 0, .slice none 0 0] 84))), trivial⟩ (fun _ => ?_)
              clear hK K
              have hS0 := (HQ.out _ (((Ext.refl _).drew.alloc (.cells #[.int .i64 0, .int .i64 0, .slice none 0 0, .slice none 0 0] 86)).alloc (.cells #[.int .i64 0, .int .i64 0, .int .i64 0, .int .i64 0, .slice none 0 0, .slice none 0 0] 84)))
              (try simp only [Act.put, List.setIfInBounds_toArray, List.set_cons_zero, List.set_cons_succ])
              refine wpE_all (rs := [5]) (by kernel_rfl) (by simp) ?_
              refine AllE.cons rfl (fun K hK => ?_) AllE.nil
              simp only [List.getElem_toArray, List.getElem_cons_succ, List.getElem_cons_zero]
              go_simp
              go_at_call 45
              refine (HO.out _ (((Ext.refl _).drew.alloc (.cells #[.int .i64 0, .int .i64 0, .slice none 0 0, .slice none 0 0] 86)).alloc (.cells #[.int .i64 0, .int .i64 0, .int .i64 0, .int .i64 0, .slice none 0 0, .slice none 0 0] 84))).mono ?_
              rintro z9 wG ⟨A7, n7, c7, A8, n8, c8, B1, m1, e1, B2, m2, e2, rfl, hxG, hfu⟩
              have hcur : Ext wm wG := (((Ext.refl _).drew.alloc (.cells #[.int .i64 0, .int .i64 0, .slice none 0 0, .slice none 0 0] 86)).alloc (.cells #[.int .i64 0, .int .i64 0, .int .i64 0, .int .i64 0, .slice none 0 0, .slice none 0 0] 84)).trans hxG
              have hX8 : wm.heap.size + 2 ≤ wG.heap.size := by have h := hxG.lt; simpa using h
              replace hfu := hfu.mono (Q := fun j => wm.heap.size + 2 ≤ j) fun j hj _ => by simpa using hj
              simp only []
              refine hK.out _ _ ⟨fun _ => (HQ.out _ hcur), trivial⟩ (fun _ => ?_)
              clear hK K
              have hS0 := (HQ.out _ hcur)
              (try simp only [Act.put, List.setIfInBounds_toArray, List.set_cons_zero, List.set_cons_succ])
              refine wpE_takeS (i := 6) (d := some 77) (v := .tuple #[.agg #[.int .i64 p.num, .int .i64 p.suf, .int .i64 p.ent, .int .i64 p.ver, .slice A7 n7 c7, .slice A8 n8 c8], .agg #[.int .i64 ln.fr, .int .i64 ln.un, .slice B1 m1 e1, .slice B2 m2 e2], .bool ok]) rfl rfl (by kernel_rfl) (by kernel_rfl) (by kernel_rfl) (by kernel_rfl) (fun _ _ _ h => h) (by rfl) ?hyb22 hS0 trivial ?gob22
              case hyb22 =>
                intro w9 hT9
                clear hT9; go_simp
              (try simp only [Act.put, List.setIfInBounds_toArray, List.set_cons_zero, List.set_cons_succ])
              refine wpE_takeS (i := 7) (d := some 84) (v := .agg #[.int .i64 p.num, .int .i64 p.suf, .int .i64 p.ent, .int .i64 p.ver, .slice A7 n7 c7, .slice A8 n8 c8]) rfl rfl (by kernel_rfl) (by kernel_rfl) (by kernel_rfl) (by kernel_rfl) (fun _ _ _ h => h) (by rfl) ?hyb23 hS0 trivial ?gob23
              case hyb23 =>
                intro w9 hT9
                clear hT9; go_simp
              (try simp only [Act.put, List.setIfInBounds_toArray, List.set_cons_zero, List.set_cons_succ])
              refine wpE_takeS (i := 8) (d := some 85) (v := .agg #[.int .i64 ln.fr, .int .i64 ln.un, .slice B1 m1 e1, .slice B2 m2 e2]) rfl rfl (by kernel_rfl) (by kernel_rfl) (by kernel_rfl) (by kernel_rfl) (fun _ _ _ h => h) (by rfl) ?hyb24 hS0 trivial ?gob24
              case hyb24 =>
                intro w9 hT9
                clear hT9; go_simp
              (try simp only [Act.put, List.setIfInBounds_toArray, List.set_cons_zero, List.set_cons_succ])
              refine wpE_takeS (i := 9) (d := some 86) (v := .bool ok) rfl rfl (by kernel_rfl) (by kernel_rfl) (by kernel_rfl) (by kernel_rfl) (fun _ _ _ h => h) (by rfl) ?hyb25 hS0 trivial ?gob25
              case hyb25 =>
                intro w9 hT9
                clear hT9; go_simp
              (try simp only [Act.put, List.setIfInBounds_toArray, List.set_cons_zero, List.set_cons_succ])
              have h2 : (wG).heap[wm.heap.size + 1]? = some (.cells #[.int .i64 0, .int .i64 0, .int .i64 0, .int .i64 0, .slice none 0 0, .slice none 0 0] 84 (0, 0)) := ((hxG.block _ (by (try simp); (try omega))).trans (heap_alloc_at _ _ _ _ (by (try simp); (try omega))))
              have h3 : (wG).heap[wm.heap.size]? = some (.cells #[.int .i64 0, .int .i64 0, .slice none 0 0, .slice none 0 0] 86 (0, 0)) := ((hxG.block _ (by (try simp); (try omega))).trans ((heap_alloc_old _ _ _ (by (try simp); (try omega))).trans (heap_alloc_at _ _ _ _ (by (try simp); (try omega)))))
              obtain ⟨V, hV⟩ : ∃ V, wG = V := ⟨_, rfl⟩
              have hxV : Ext wm V := by rw [← hV]; exact hcur
              have hGV : Ext wG V := by rw [← hV]; exact (Ext.refl wG)
              obtain ⟨zp, hzp⟩ : ∃ zp, wm.heap.size + 1 = zp := ⟨_, rfl⟩
              obtain ⟨zl, hzl⟩ : ∃ zl, wm.heap.size = zl := ⟨_, rfl⟩
              rw [hV, hzp] at h2
              rw [hV, hzl] at h3
              have HFIN := Lib.hid (fd_end (ok := ok) (c7 := c7) (c8 := c8) (wr := wm) (XS := wm.heap.size + 2) hfu (by omega) hGV hxV h2 h3 (by omega) (by omega) (by omega))
              have HSV := Lib.hid (HQ.out V hxV)
              have HZP := Lib.hid (show wm.heap.size ≤ zp ∧ zp ≠ zl from ⟨by omega, by omega⟩)
              try rw [hV]
              try rw [hzp]
              try rw [hzl]
              clear hS0
              have hS0 := HSV.out
              have v0 := cell_of h2 (i := 0) (u := .int .i64 0) rfl
              have f0 := frozen_of h2 0
              have v1 := cell_of h2 (i := 1) (u := .int .i64 0) rfl
              have f1 := frozen_of h2 1
              have v2 := cell_of h2 (i := 2) (u := .int .i64 0) rfl
              have f2 := frozen_of h2 2
              have v3 := cell_of h2 (i := 3) (u := .int .i64 0) rfl
              have f3 := frozen_of h2 3
              have v4 := cell_of h2 (i := 4) (u := .slice none 0 0) rfl
              have f4 := frozen_of h2 4
              have v5 := cell_of h2 (i := 5) (u := .slice none 0 0) rfl
              have f5 := frozen_of h2 5
              have HH3 := Lib.hid h3
              have HXV := Lib.hid hxV
              clear hV hzp hzl h2 h3 hfu hxV hGV hX8 hcur
              refine wpE_all (rs := [12]) (by kernel_rfl) (by simp) ?_
              refine AllE.cons rfl (fun K hK => ?_) AllE.nil
              simp only [List.getElem_toArray, List.getElem_cons_succ, List.getElem_cons_zero]
              go_simp
              refine hK.out _ _ ⟨fun _ => (HQ.out _ (set6_ext HXV.out HZP.out.1 (.int .i64 p.num) (.int .i64 p.suf) (.int .i64 p.ent) (.int .i64 p.ver) (.slice A7 n7 c7) (.slice A8 n8 c8))), trivial⟩ (fun _ => ?_)
              clear hK K
              have hS0 := (HQ.out _ (set6_ext HXV.out HZP.out.1 (.int .i64 p.num) (.int .i64 p.suf) (.int .i64 p.ent) (.int .i64 p.ver) (.slice A7 n7 c7) (.slice A8 n8 c8)))
              (try simp only [Act.put, List.setIfInBounds_toArray, List.set_cons_zero, List.set_cons_succ])
              clear v0 v1 v2 v3 v4 v5 f0 f1 f2 f3 f4 f5 hS0
              obtain ⟨Y6, hY6⟩ : ∃ Y, ((((((V.setCell ⟨zp, 0, none⟩ (.int .i64 p.num)).setCell ⟨zp, 1, none⟩ (.int .i64 p.suf)).setCell ⟨zp, 2, none⟩ (.int .i64 p.ent)).setCell ⟨zp, 3, none⟩ (.int .i64 p.ver)).setCell ⟨zp, 4, none⟩ (.slice A7 n7 c7)).setCell ⟨zp, 5, none⟩ (.slice A8 n8 c8)) = Y := ⟨_, rfl⟩
              have HL6 := Lib.hid (show Y6.heap[zl]? = some (.cells #[.int .i64 0, .int .i64 0, .slice none 0 0, .slice none 0 0] 86 (0, 0)) by rw [← hY6]; exact set6_heap HH3.out HZP.out.2 _ _ _ _ _ _)
              have HX6 := Lib.hid (show Ext wm Y6 by rw [← hY6]; exact set6_ext HXV.out HZP.out.1 _ _ _ _ _ _)
              rw [hY6] at HFIN ⊢
              clear hY6 HH3 HXV HSV
              have hS0 := HQ.out Y6 HX6.out
              have v0 := cell_of HL6.out (i := 0) (u := .int .i64 0) rfl
              have f0 := frozen_of HL6.out 0
              have v1 := cell_of HL6.out (i := 1) (u := .int .i64 0) rfl
              have f1 := frozen_of HL6.out 1
              have v2 := cell_of HL6.out (i := 2) (u := .slice none 0 0) rfl
              have f2 := frozen_of HL6.out 2
              have v3 := cell_of HL6.out (i := 3) (u := .slice none 0 0) rfl
              have f3 := frozen_of HL6.out 3
              refine wpE_all (rs := [13]) (by kernel_rfl) (by simp) ?_
              refine AllE.cons rfl (fun K hK => ?_) AllE.nil
              simp only [List.getElem_toArray, List.getElem_cons_succ, List.getElem_cons_zero]
              go_simp
              refine hK.out _ _ ⟨fun _ => (HQ.out _ HFIN.out.ext), trivial⟩ (fun _ => ?_)
              clear hK K
              have hS0 := (HQ.out _ HFIN.out.ext)
              (try simp only [Act.put, List.setIfInBounds_toArray, List.set_cons_zero, List.set_cons_succ])
              clear v0 v1 v2 v3 f0 f1 f2 f3 hS0
              obtain ⟨Y, hY⟩ : ∃ Y, ((((Y6.setCell ⟨zl, 0, none⟩ (.int .i64 ln.fr)).setCell ⟨zl, 1, none⟩ (.int .i64 ln.un)).setCell ⟨zl, 2, none⟩ (.slice B1 m1 e1)).setCell ⟨zl, 3, none⟩ (.slice B2 m2 e2)) = Y := ⟨_, rfl⟩
              rw [hY] at HFIN ⊢
              clear hY
              have hS0 := HQ.out Y HFIN.out.ext
              refine wpE_all (rs := [14]) (by kernel_rfl) (by simp) ?_
              refine AllE.cons rfl (fun K hK => ?_) AllE.nil
              simp only [List.getElem_toArray, List.getElem_cons_succ, List.getElem_cons_zero]
              go_simp
              refine hK.out _ _ ⟨fun h => absurd h (by simp), trivial⟩ (fun _ => ?_)
              clear hK K
              (try simp only [Act.put, List.setIfInBounds_toArray, List.set_cons_zero, List.set_cons_succ])
              refine wpE_done (by kernel_rfl) ?_ _
              go_wp2_with fail
              go_meet
              case rel => exact HFIN.out
        case rest =>
          obtain ⟨y8, y9, C7, k7, l7, C8, k8, l8, C9, k9, l9, C2, k2, l2, rfl, rfl, rfl, m8, m9, hfm, hx8⟩ := hcut
          rename World => vb
          have k8' := (hx8.block _ (lt_of_block HK8'.out)).trans HK8'.out
          have k9' := (hx8.block _ (lt_of_block HK9'.out)).trans HK9'.out
          have HQC := Lib.hid (HFQ.out.ext hx8)
          have HQB := Lib.hid hfm
          have HXB := Lib.hid (HXM.out.trans hx8)
          have p0 := cell_of k8' (i := 0) (u := .int .i64 p.num) rfl
          have p1 := cell_of k8' (i := 1) (u := .int .i64 p.suf) rfl
          have p2 := cell_of k8' (i := 2) (u := .int .i64 p.ent) rfl
          have p3 := cell_of k8' (i := 3) (u := .int .i64 p.ver) rfl
          have p4 := cell_of k8' (i := 4) (u := .slice A7 n7 c7) rfl
          have p5 := cell_of k8' (i := 5) (u := .slice A8 n8 c8) rfl
          have r0 := cell_of m8 (i := 0) (u := .int .i64 p.num) rfl
          have r1 := cell_of m8 (i := 1) (u := .int .i64 p.suf) rfl
          have r2 := cell_of m8 (i := 2) (u := .int .i64 p.ent) rfl
          have r3 := cell_of m8 (i := 3) (u := .int .i64 p.ver) rfl
          have r4 := cell_of m8 (i := 4) (u := .slice C7 k7 l7) rfl
          have r5 := cell_of m8 (i := 5) (u := .slice C8 k8 l8) rfl
          have l0 := cell_of k9' (i := 0) (u := .int .i64 ln.fr) rfl
          have l1' := cell_of k9' (i := 1) (u := .int .i64 ln.un) rfl
          have l2' := cell_of k9' (i := 2) (u := .slice A9 n9 c9) rfl
          have l3 := cell_of k9' (i := 3) (u := .slice A2 n2 c2') rfl
          have j0 := cell_of m9 (i := 0) (u := .int .i64 ln.fr) rfl
          have j1 := cell_of m9 (i := 1) (u := .int .i64 ln.un) rfl
          have j2 := cell_of m9 (i := 2) (u := .slice C9 k9 l9) rfl
          have j3 := cell_of m9 (i := 3) (u := .slice C2 k2 l2) rfl
          have HSA := Lib.hid (show Calls Tryz.prog 46 #[.slice (some ⟨vb.heap.size, 0, none⟩) 1 1, .slice (some ⟨vb.heap.size + 1, 0, none⟩) 1 1] ((vb.alloc (.cells #[.int .i64 ln.fr, .int .i64 ln.un, .slice A9 n9 c9, .slice A2 n2 c2'] 86)).alloc (.cells #[.int .i64 ln.fr, .int .i64 ln.un, .slice C9 k9 l9, .slice C2 k2 l2] 86)) (QuT ((vb.alloc (.cells #[.int .i64 ln.fr, .int .i64 ln.un, .slice A9 n9 c9, .slice A2 n2 c2'] 86)).alloc (.cells #[.int .i64 ln.fr, .int .i64 ln.un, .slice C9 k9 l9, .slice C2 k2 l2] 86))) from by
            have hxx : Ext vb ((vb.alloc (.cells #[.int .i64 ln.fr, .int .i64 ln.un, .slice A9 n9 c9, .slice A2 n2 c2'] 86)).alloc (.cells #[.int .i64 ln.fr, .int .i64 ln.un, .slice C9 k9 l9, .slice C2 k2 l2] 86)) := ((Ext.refl _).alloc _).alloc _
            refine sameL_any (fun _ => True) (fun _ => True) _ _ _ 1 1 1 1 [ln] (row_oneV (T := 86) ?_ (kLn.mono (kLn.ext HQC.out.x hxx) fun _ _ _ => trivial) trivial) (row_oneV (T := 86) ?_ (kLn.mono (kLn.ext HQB.out.x hxx) fun _ _ _ => trivial) trivial) (by omega) (fun z hz => by simp only [List.mem_singleton] at hz; subst hz; exact HBD.out.x)
            · exact (heap_alloc_old _ _ _ (by simp)).trans (heap_alloc_at _ _ _ _ rfl)
            · exact heap_alloc_at _ _ _ _ (by simp))
          have HSB := Lib.hid (fun X (hX : Ext vb X) => (show Calls Tryz.prog 46 #[.slice A7 n7 c7, .slice C7 k7 l7] X (QuT X) from sameL_any _ _ X A7 C7 n7 k7 c7 l7 p.body (Lay.row_ext HQC.out.r7 hX) (Lay.row_ext HQB.out.r7 hX) (by have := Lay.row_len HQC.out.r7; have := HBD.out.b; omega) HBD.out.lb))
          have HSC := Lib.hid (fun X (hX : Ext vb X) => (show Calls Tryz.prog 46 #[.slice A8 n8 c8, .slice C8 k8 l8] X (QuT X) from sameL_any _ _ X A8 C8 n8 k8 c8 l8 p.nts (Lay.row_ext HQC.out.r8 hX) (Lay.row_ext HQB.out.r8 hX) (by have := Lay.row_len HQC.out.r8; have := HBD.out.n; omega) HBD.out.ln))
          have J0 := fun o : Obj => (show (vb.alloc o).cell? ⟨y9, 0, none⟩ = some (.int .i64 ln.fr) from ((((Ext.refl vb).alloc o).cells.1 y9 0 (World.block_lt_of_cell? vb _ j0))).trans j0)
          have J1 := fun o : Obj => (show (vb.alloc o).cell? ⟨y9, 1, none⟩ = some (.int .i64 ln.un) from ((((Ext.refl vb).alloc o).cells.1 y9 1 (World.block_lt_of_cell? vb _ j1))).trans j1)
          have J2 := fun o : Obj => (show (vb.alloc o).cell? ⟨y9, 2, none⟩ = some (.slice C9 k9 l9) from ((((Ext.refl vb).alloc o).cells.1 y9 2 (World.block_lt_of_cell? vb _ j2))).trans j2)
          have J3 := fun o : Obj => (show (vb.alloc o).cell? ⟨y9, 3, none⟩ = some (.slice C2 k2 l2) from ((((Ext.refl vb).alloc o).cells.1 y9 3 (World.block_lt_of_cell? vb _ j3))).trans j3)
          have Kp4 := fun o o' : Obj => (show ((vb.alloc o).alloc o').cell? ⟨y7, 4, none⟩ = some (.slice A7 n7 c7) from (((((Ext.refl vb).alloc o).alloc o').cells.1 y7 4 (World.block_lt_of_cell? vb _ p4))).trans p4)
          have Kp5 := fun o o' : Obj => (show ((vb.alloc o).alloc o').cell? ⟨y7, 5, none⟩ = some (.slice A8 n8 c8) from (((((Ext.refl vb).alloc o).alloc o').cells.1 y7 5 (World.block_lt_of_cell? vb _ p5))).trans p5)
          have Kr4 := fun o o' : Obj => (show ((vb.alloc o).alloc o').cell? ⟨y8, 4, none⟩ = some (.slice C7 k7 l7) from (((((Ext.refl vb).alloc o).alloc o').cells.1 y8 4 (World.block_lt_of_cell? vb _ r4))).trans r4)
          have Kr5 := fun o o' : Obj => (show ((vb.alloc o).alloc o').cell? ⟨y8, 5, none⟩ = some (.slice C8 k8 l8) from (((((Ext.refl vb).alloc o).alloc o').cells.1 y8 5 (World.block_lt_of_cell? vb _ r5))).trans r5)
          clear hx8 m8 m9 k8' k9' hfm
          go_wp2_with (first
            | (go_at_call_of 46 (Value.slice (some ⟨vb.heap.size, 0, none⟩) 1 1); refine (HSA.out).mono ?_; rintro q9 wv ⟨rfl, mm, rfl⟩)
            | (go_at_call_of 46 (Value.slice A7 n7 c7); refine (HSB.out _ (by first | exact (((Ext.refl vb).alloc _).alloc _).drewN _)).mono ?_; rintro q9 wv ⟨rfl, mm2, rfl⟩)
            | (go_at_call_of 46 (Value.slice A8 n8 c8); refine (HSC.out _ (by first | exact ((((Ext.refl vb).alloc _).alloc _).drewN _).drewN _ | exact (((Ext.refl vb).alloc _).alloc _).drewN _)).mono ?_; rintro q9 wv ⟨rfl, mm3, rfl⟩))
          go_roundw
          case rel => exact ⟨i + 1, by omega, by simp, HXB.out.trans (by first | exact (((((Ext.refl vb).alloc _).alloc _).drewN _).drewN _).drewN _ | exact (((Ext.refl vb).alloc _).alloc _).drewN _)⟩
          case measure => simp only [toM]; omega
end Go.Proofs.YtdbnddmncbjobaaGreatDoor
