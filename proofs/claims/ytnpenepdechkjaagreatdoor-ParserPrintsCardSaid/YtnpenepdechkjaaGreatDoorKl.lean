/- The Maker's rules: Typed. -/
import Derived.Test.YtnpenepdechkjaaGreatDoorKk
import Derived.Test.YtnpenepdechkjaaGreatDoorMd
import Derived.Test.YtnpenepdechkjaaGreatDoorQp
namespace Go.Proofs.YtnpenepdechkjaaGreatDoor
open Go Go.RowKit

theorem MB.keep {X X' : World} {b : Nat} {A : Option Addr} {c : Nat} {l : List Int} {a : Nat} (h : MB X b A c l a) (hb : X'.heap[b]? = X.heap[b]?) (hA : 0 < l.length → ∀ x, A = some x → X'.heap[x.block]? = X.heap[x.block]?) : MB X' b A c l a :=
 ⟨hb.trans h.blk, h.row.blocks0 fun h0 x hx _ => hA h0 x hx, h.bd, h.old, h.len, h.at_⟩
/-- The Maker on the way, since the world V. -/
structure MA (V : World) (b : Nat) (A : Option Addr) (c : Nat) (l : List Int) (hi : Nat) (X : World) : Prop where
 mb : ∃ a, a ≤ hi ∧ MB X b A c l a
 mv : Mv b V X
 bb : b < V.heap.size
 ltA : 0 < l.length → ∀ x, A = some x → x.block < V.heap.size
section
variable {V X X' : World} {b : Nat} {A : Option Addr} {c : Nat} {l : List Int} {hi hi' : Nat}
theorem MA.ext (h : MA V b A c l hi X) (hx : Ext X X') : MA V b A c l hi X' := by
 obtain ⟨a, h1, h2⟩ := h.mb
 exact ⟨⟨a, h1, h2.ext hx⟩, h.mv.trans (Mv.of_ext hx), h.bb, h.ltA⟩
theorem MA.more (h : MA V b A c l hi X) (hh : hi ≤ hi') : MA V b A c l hi' X := by
 obtain ⟨a, h1, h2⟩ := h.mb
 exact ⟨⟨a, Nat.le_trans h1 hh, h2⟩, h.mv, h.bb, h.ltA⟩
theorem MA.next (h : MA V b A c l hi X) (ha : hi + 1 ≤ 1000000) (m : Nat) (mi : Int) (hmi : mi = m) (hm : 1 ≤ m) (hm2 : m ≤ 2147483648) :
  Calls Tryz.prog 44 #[.pointer (some ⟨b, 0, none⟩), .int .i64 mi] X (fun e X' => ∃ k : Nat, e = .returned (.int .i64 k) ∧ k < m ∧ MA V b A c l (hi + 1) X' ∧ Mv b X X') := by
 rw [hmi]
 obtain ⟨a, h1, h2⟩ := h.mb
 refine (mnext_any h2 (by omega) m hm hm2).mono ?_
 rintro e X' ⟨k, he, hk, hmb, hmv⟩
 exact ⟨k, he, hk, ⟨⟨a + 1, by omega, hmb⟩, h.mv.trans hmv, h.bb, h.ltA⟩, hmv⟩
theorem MA.call {fn deep : Nat} (hf : MkOK fn deep) (h : MA V b A c l hi X) (hh : hi + FN deep ≤ 1000000) (di : Int) (hdi : di = deep) :
  Calls Tryz.prog fn #[.pointer (some ⟨b, 0, none⟩), .int .i64 di] X (fun e X' => ∃ (d : Nd) (t : Tr), e = .returned (.agg #[.int .i64 d.k, .int .i64 d.n, .string d.s, .slice d.A d.m d.c]) ∧ Rep X' (fun k => X.heap.size ≤ k) d t ∧ GAny deep t ∧ MA V b A c l (hi + FN deep) X' ∧ Mv b X X') := by
 rw [hdi]
 obtain ⟨a, h1, h2⟩ := h.mb
 have hs := h.mv.size
 refine (hf X b A c l a h2 (fun h0 x hx => by have := h.ltA h0 x hx; omega) (by omega)).mono ?_
 rintro e X' ⟨d, t, he, hr, hg, ⟨a9, h8, h9⟩, hm⟩
 exact ⟨d, t, he, hr, hg, ⟨⟨a9, by omega, h9⟩, h.mv.trans hm, h.bb, h.ltA⟩, hm⟩
end
theorem any_ok (deep : Nat) (hd : deep ≤ 7) : MkOK 46 deep := fun W b A c l a hmb hA ha => any_any (deep + 1) deep W b A c l a (by omega) hmb hA hd ha
/-- A rule on the way lies in the block g. -/
structure MS (V : World) (b : Nat) (A : Option Addr) (c : Nat) (l : List Int) (hi g : Nat) (d : RlD) (x : Rl) (X : World) : Prop where
 ma : MA V b A c l hi X
 rx : RX X g d
 rep : RepR X (fun k => V.heap.size ≤ k ∧ k ≠ g) d x
 gb : V.heap.size ≤ g
section
variable {V X X' : World} {b : Nat} {A : Option Addr} {c : Nat} {l : List Int} {hi hi' g : Nat} {d : RlD} {x : Rl}
theorem MS.step (h : MS V b A c l hi g d x X) (hma : MA V b A c l hi' X') (hm : Mv b X X') : MS V b A c l hi' g d x X' :=
 ⟨hma, h.rx.mv hm (by have := h.gb; have := h.ma.bb; omega), h.rep.mv hm (fun k hk => by have := h.ma.bb; omega), h.gb⟩
theorem MS.ext (h : MS V b A c l hi g d x X) (hx : Ext X X') : MS V b A c l hi g d x X' := h.step (h.ma.ext hx) (Mv.of_ext hx)
theorem MS.more (h : MS V b A c l hi g d x X) (hh : hi ≤ hi') : MS V b A c l hi' g d x X := ⟨h.ma.more hh, h.rx, h.rep, h.gb⟩
theorem MS.next (h : MS V b A c l hi g d x X) (ha : hi + 1 ≤ 1000000) (m : Nat) (mi : Int) (hmi : mi = m) (hm : 1 ≤ m) (hm2 : m ≤ 2147483648) :
  Calls Tryz.prog 44 #[.pointer (some ⟨b, 0, none⟩), .int .i64 mi] X (fun e X' => ∃ k : Nat, e = .returned (.int .i64 k) ∧ k < m ∧ MS V b A c l (hi + 1) g d x X') := by
 refine (h.ma.next ha m mi hmi hm hm2).mono ?_
 rintro e X' ⟨k, he, hk, hma, hmv⟩
 exact ⟨k, he, hk, h.step hma hmv⟩
theorem MS.call {fn deep : Nat} (hf : MkOK fn deep) (h : MS V b A c l hi g d x X) (hh : hi + FN deep ≤ 1000000) (di : Int) (hdi : di = deep) :
  Calls Tryz.prog fn #[.pointer (some ⟨b, 0, none⟩), .int .i64 di] X (fun e X' => ∃ (dt : Nd) (t : Tr), e = .returned (.agg #[.int .i64 dt.k, .int .i64 dt.n, .string dt.s, .slice dt.A dt.m dt.c]) ∧ Rep X' (fun k => V.heap.size ≤ k ∧ k ≠ g) dt t ∧ GAny deep t ∧ MS V b A c l (hi + FN deep) g d x X') := by
 refine (h.ma.call hf hh di hdi).mono ?_
 rintro e X' ⟨dt, t, he, hr, hg, hma, hm⟩
 have hs := h.ma.mv.size
 have hg1 := lt_of_block h.rx
 exact ⟨dt, t, he, hr.mono (fun k hk _ => ⟨by omega, by omega⟩), hg, h.step hma hm⟩
theorem MS.store (h : MS V b A c l hi g d x X) {d' : RlD} {x' : Rl} (hx : RX X' g d') (hs : X'.heap.size = X.heap.size) (hk : ∀ k, k ≠ g → X'.heap[k]? = X.heap[k]?) (hmv : Mv b V X → Mv b V X')
  (hr : RepR X (fun k => V.heap.size ≤ k ∧ k ≠ g) d' x') : MS V b A c l hi g d' x' X' := by
 obtain ⟨a, h1, h2⟩ := h.ma.mb
 have hbb := h.ma.bb
 have hgb := h.gb
 exact ⟨⟨⟨a, h1, h2.keep (hk _ (by omega)) (fun h0 x hx => hk _ (by have := h.ma.ltA h0 x hx; omega))⟩, hmv h.ma.mv, h.ma.bb, h.ma.ltA⟩, hx, hr.keep (by omega) (fun k h1 _ => hk k h1.2), h.gb⟩
theorem MS.set11 (h : MS V b A c l hi g d x X) (s : List UInt8) (S : ByteArray) (hS : S = bs s) : MS V b A c l hi g { d with unless_ := S } { x with unless_ := s } (X.setCell ⟨g, 11, none⟩ (.string S)) :=
 h.store (show RX _ g { d with unless_ := S } from ((heap_setCell_same _ g 11 _ 50 _ h.rx).trans rfl)) (by simp) (fun k hk => by rw [heap_setCell_other _ _ _ _ (by simpa using hk)]) (fun hm => (hm.setNew (p := ⟨g, 11, none⟩) h.gb _)) ⟨h.rep.1, h.rep.2, h.rep.3, h.rep.4, h.rep.5, hS, h.rep.7⟩
theorem MS.set12 (h : MS V b A c l hi g d x X) (s : List UInt8) (S : ByteArray) (hS : S = bs s) : MS V b A c l hi g { d with else_ := S } { x with else_ := s } (X.setCell ⟨g, 12, none⟩ (.string S)) :=
 h.store (show RX _ g { d with else_ := S } from ((heap_setCell_same _ g 12 _ 50 _ h.rx).trans rfl)) (by simp) (fun k hk => by rw [heap_setCell_other _ _ _ _ (by simpa using hk)]) (fun hm => (hm.setNew (p := ⟨g, 12, none⟩) h.gb _)) ⟨h.rep.1, h.rep.2, h.rep.3, h.rep.4, h.rep.5, h.rep.6, hS⟩
theorem MS.setI (h : MS V b A c l hi g d x X) (y : Nd) (t : Tr) (hy : Rep X (fun k => V.heap.size ≤ k ∧ k ≠ g) y t) : MS V b A c l hi g { d with if_ := y } { x with if_ := t } ((((X.setCell ⟨g, 3, none⟩ (.int .i64 y.k)).setCell ⟨g, 4, none⟩ (.int .i64 y.n)).setCell ⟨g, 5, none⟩ (.string y.s)).setCell ⟨g, 6, none⟩ (.slice y.A y.m y.c)) :=
 h.store (show RX _ g { d with if_ := y } from ((heap_setCell_same _ g 6 _ 50 _ ((heap_setCell_same _ g 5 _ 50 _ ((heap_setCell_same _ g 4 _ 50 _ ((heap_setCell_same _ g 3 _ 50 _ h.rx).trans rfl)).trans rfl)).trans rfl)).trans rfl)) (by simp) (fun k hk => by rw [heap_setCell_other _ _ _ _ (by simpa using hk), heap_setCell_other _ _ _ _ (by simpa using hk), heap_setCell_other _ _ _ _ (by simpa using hk), heap_setCell_other _ _ _ _ (by simpa using hk)]) (fun hm => ((((hm.setNew (p := ⟨g, 3, none⟩) h.gb _).setNew (p := ⟨g, 4, none⟩) h.gb _).setNew (p := ⟨g, 5, none⟩) h.gb _).setNew (p := ⟨g, 6, none⟩) h.gb _)) ⟨h.rep.1, h.rep.2, h.rep.3, hy, h.rep.5, h.rep.6, h.rep.7⟩
theorem MS.setD (h : MS V b A c l hi g d x X) (y : Nd) (t : Tr) (hy : Rep X (fun k => V.heap.size ≤ k ∧ k ≠ g) y t) : MS V b A c l hi g { d with due := y } { x with due := t } ((((X.setCell ⟨g, 7, none⟩ (.int .i64 y.k)).setCell ⟨g, 8, none⟩ (.int .i64 y.n)).setCell ⟨g, 9, none⟩ (.string y.s)).setCell ⟨g, 10, none⟩ (.slice y.A y.m y.c)) :=
 h.store (show RX _ g { d with due := y } from ((heap_setCell_same _ g 10 _ 50 _ ((heap_setCell_same _ g 9 _ 50 _ ((heap_setCell_same _ g 8 _ 50 _ ((heap_setCell_same _ g 7 _ 50 _ h.rx).trans rfl)).trans rfl)).trans rfl)).trans rfl)) (by simp) (fun k hk => by rw [heap_setCell_other _ _ _ _ (by simpa using hk), heap_setCell_other _ _ _ _ (by simpa using hk), heap_setCell_other _ _ _ _ (by simpa using hk), heap_setCell_other _ _ _ _ (by simpa using hk)]) (fun hm => ((((hm.setNew (p := ⟨g, 7, none⟩) h.gb _).setNew (p := ⟨g, 8, none⟩) h.gb _).setNew (p := ⟨g, 9, none⟩) h.gb _).setNew (p := ⟨g, 10, none⟩) h.gb _)) ⟨h.rep.1, h.rep.2, h.rep.3, h.rep.4, hy, h.rep.6, h.rep.7⟩
end
/-- What is made: all but the day that is due. -/
structure GW0 (B : Nat) (x : Rl) : Prop where
 nm : NmOK x.name
 fr : 0 ≤ x.from_ ∧ x.from_ ≤ 3652058
 on_ : NmOK x.on_
 if_ : GD 12 x.if_
 iz : tsz x.if_ ≤ B
 un : x.unless_ = [] ∨ NmOK x.unless_
 el : x.else_ = [] ∨ NmOK x.else_
structure GW (B : Nat) (x : Rl) : Prop where
 gq : GQ x
 iz : tsz x.if_ ≤ B
 dz : tsz x.due ≤ B
theorem GW0.due {B : Nat} {x : Rl} (h : GW0 B x) {t : Tr} (ht : GD 12 t) (hz : tsz t ≤ B) : GW B { x with due := t } := ⟨⟨h.nm, h.fr, h.on_, h.if_, ht, h.un, h.el⟩, h.iz, hz⟩
theorem GW0.ift {B : Nat} {x : Rl} (h : GW0 B x) {t : Tr} (ht : GD 12 t) (hz : tsz t ≤ B) : GW0 B { x with if_ := t } := ⟨h.nm, h.fr, h.on_, ht, hz, h.un, h.el⟩
theorem GW.un {B : Nat} {x : Rl} (h : GW B x) {s : List UInt8} (hs : NmOK s) : GW B { x with unless_ := s } := ⟨⟨h.gq.nm, h.gq.fr, h.gq.on_, h.gq.if_, h.gq.due, .inr hs, h.gq.el⟩, h.iz, h.dz⟩
theorem GW.el {B : Nat} {x : Rl} (h : GW B x) {s : List UInt8} (hs : NmOK s) : GW B { x with else_ := s } := ⟨⟨h.gq.nm, h.gq.fr, h.gq.on_, h.gq.if_, h.gq.due, h.gq.un, .inr hs⟩, h.iz, h.dz⟩
theorem GAny.gd {d : Nat} {t : Tr} (h : GAny d t) (hd : d ≤ 6) : GD 12 t := h.1.mono (by omega)
/-- A rule that a method of the Maker hands back. -/
def TyPost (W : World) (b : Nat) (A : Option Addr) (c : Nat) (l : List Int) (hi : Nat) (B : Nat) (e : Ending) (X : World) : Prop :=
 ∃ (d : RlD) (x : Rl), e = .returned d.val ∧ RepR X (fun k => W.heap.size ≤ k) d x ∧ GW B x ∧ MA W b A c l hi X
theorem MS.fin {W V X : World} {b : Nat} {A : Option Addr} {c : Nat} {l : List Int} {hi hi' g : Nat} {d : RlD} {x : Rl} {B : Nat} (h : MS V b A c l hi g d x X) (hV : V.heap.size = W.heap.size + 1) (hWV : Ext W V) (hb : b < W.heap.size) (hA : 0 < l.length → ∀ x, A = some x → x.block < W.heap.size) (hG : GW B x) (hh : hi ≤ hi') :
  TyPost W b A c l hi' B (.returned d.val) (fin13 X W.heap.size d) := by
 obtain ⟨a, h1, h2⟩ := h.ma.mb
 exact ⟨d, x, rfl, (h.rep.keep (by rw [fin13_size]; exact Nat.le_refl _) (fun k hk _ => fin13_other _ _ _ _ (by have := hk.1; omega))).mono (fun k hk _ => by have := hk.1; omega), hG,
  ⟨a, by omega, h2.keep (fin13_other _ _ _ _ (by omega)) (fun h0 x hx => fin13_other _ _ _ _ (by have := hA h0 x hx; omega))⟩, ((Mv.of_ext hWV).trans h.ma.mv).fin13 d, hb, hA⟩
theorem ptrue_any (w : World) : Calls Tryz.prog 31 #[] w (fun e w' => e = .returned (.agg #[.int .i64 2, .int .i64 1, .string ⟨#[]⟩, .slice none 0 0]) ∧ Ext w w') := by
 go_enter Tryz.func31, Tryz.ntmps31
 go_wp2
 refine bodyPost_ret (v := .agg #[.int .i64 2, .int .i64 1, .string ⟨#[]⟩, .slice none 0 0]) (by simp [results, Tryz.results31, go_sem, *]) rfl ?_
 refine ⟨rfl, ?_⟩
 repeat (first | exact Ext.refl _ | apply Ext.alloc | (refine Ext.setCell ?_ (Nat.le_refl _) _))
theorem FN3 : FN 3 = 106 := by decide
theorem zn3 : ZN 3 = 40 := by decide
theorem true_gd : GD 12 trTrue := .bool 12 1 (.inr rfl)
set_option maxHeartbeats 4000000 in
set_option maxRecDepth 100000 in
theorem typed_any {W : World} {b : Nat} {A : Option Addr} {c : Nat} {l : List Int} {hi : Nat} (h : MA W b A c l hi W) (hh : hi + 300 ≤ 1000000) :
  Calls Tryz.prog 47 #[.pointer (some ⟨b, 0, none⟩)] W (TyPost W b A c l (hi + 300) 40) := by
 have HX0 := Lib.hid (show Ext W (W.alloc (.cells #[.string ⟨#[]⟩, .int .i64 0, .string ⟨#[]⟩, .int .i64 0, .int .i64 0, .string ⟨#[]⟩, .slice none 0 0, .int .i64 0, .int .i64 0, .string ⟨#[]⟩, .slice none 0 0, .string ⟨#[]⟩, .string ⟨#[]⟩] 50)) from (Ext.refl W).alloc _)
 have HGX := Lib.hid (show RX (W.alloc (.cells #[.string ⟨#[]⟩, .int .i64 0, .string ⟨#[]⟩, .int .i64 0, .int .i64 0, .string ⟨#[]⟩, .slice none 0 0, .int .i64 0, .int .i64 0, .string ⟨#[]⟩, .slice none 0 0, .string ⟨#[]⟩, .string ⟨#[]⟩] 50)) W.heap.size rl0 from heap_alloc_new _ _)
 have HVS := Lib.hid (show (W.alloc (.cells #[.string ⟨#[]⟩, .int .i64 0, .string ⟨#[]⟩, .int .i64 0, .int .i64 0, .string ⟨#[]⟩, .slice none 0 0, .int .i64 0, .int .i64 0, .string ⟨#[]⟩, .slice none 0 0, .string ⟨#[]⟩, .string ⟨#[]⟩] 50)).heap.size = W.heap.size + 1 by simp)
 have HBB := Lib.hid h.bb
 have HLA := Lib.hid h.ltA
 have HHI := Lib.hid hh
 obtain ⟨a, ha1, hmb⟩ := h.mb
 have HMB := Lib.hid (⟨a, ha1, hmb⟩ : ∃ a, a ≤ hi ∧ MB W b A c l a)
 have HNU := Lib.hid (ndb_all 4 3 (by decide) (by decide))
 have HF3 := Lib.hid FN3
 clear h ha1 hmb hh
 go_enter Tryz.func47, Tryz.ntmps47
 go_upto_region 1 with (fail)
 generalize W.alloc (.cells #[.string ⟨#[]⟩, .int .i64 0, .string ⟨#[]⟩, .int .i64 0, .int .i64 0, .string ⟨#[]⟩, .slice none 0 0, .int .i64 0, .int .i64 0, .string ⟨#[]⟩, .slice none 0 0, .string ⟨#[]⟩, .string ⟨#[]⟩] 50) = V at *
 have HA0 := Lib.hid (show MA V b A c l hi V from by
  obtain ⟨a, h1, h2⟩ := HMB.out
  exact ⟨⟨a, h1, h2.ext HX0.out⟩, Mv.refl b V, by have := HBB.out; have := HVS.out; omega, fun h0 x hx => by have := HLA.out h0 x hx; have := HVS.out; omega⟩)
 clear HMB
 go_wp2_with fail
 refine (HA0.out.next (by have := HHI.out; omega) 4 4 rfl (by decide) (by decide)).mono ?_
 rintro e w1 ⟨k1, rfl, hk1, ha1, _⟩
 have HA1 := Lib.hid ha1
 have HK1 := Lib.hid hk1
 clear ha1 hk1 HA0
 go_wp2_with fail
 refine (name_any k1 (by have := HK1.out; omega) _).mono ?_
 rintro e w2 ⟨s1, hs1, rfl, hx2⟩
 obtain ⟨S1, hS1⟩ : ∃ S, S = bs s1 := ⟨_, rfl⟩
 rw [← hS1]
 have HS1 := Lib.hid hS1
 have HN1 := Lib.hid (namesL_ok s1 hs1)
 have HA2 := Lib.hid (HA1.out.ext hx2)
 clear hS1 hs1 hx2 HA1 HK1
 go_wp2_with fail
 refine (HA2.out.next (by have := HHI.out; omega) 30 30 rfl (by decide) (by decide)).mono ?_
 rintro e w3 ⟨k3, rfl, hk3, ha3, _⟩
 have HA3 := Lib.hid ha3
 have HK3 := Lib.hid hk3
 have hkI : (k3 : Int) < 30 := by omega
 have hkw : IntKind.i64.wrap (739616 + (k3 : Int)) = 739616 + (k3 : Int) := IntWalk.i64_in _ (by omega)
 have hkw2 : IntKind.i64.wrap (739616 + (k3 : Int) - 10) = 739616 + (k3 : Int) - 10 := IntWalk.i64_in _ (by omega)
 clear ha3 hk3 HA2
 go_wp2_with fail
 clear hkw hkw2
 refine (HA3.out.next (by have := HHI.out; omega) 6 6 rfl (by decide) (by decide)).mono ?_
 rintro e w4 ⟨k4, rfl, hk4, ha4, _⟩
 have HA4 := Lib.hid ha4
 have HK4 := Lib.hid hk4
 clear ha4 hk4 HA3
 go_wp2_with fail
 refine (kind_any k4 (by have := HK4.out; omega) _).mono ?_
 rintro e w5 ⟨s5, hs5, rfl, hx5⟩
 obtain ⟨S5, hS5⟩ : ∃ S, S = bs s5 := ⟨_, rfl⟩
 rw [← hS5]
 have HS5 := Lib.hid hS5
 have HN5 := Lib.hid (kindsL_ok s5 hs5)
 have HA5 := Lib.hid (HA4.out.ext hx5)
 clear hS5 hs5 hx5 HA4 HK4
 go_wp2_with fail
 refine (ptrue_any _).mono ?_
 rintro e w6 ⟨rfl, hx6⟩
 have HA6 := Lib.hid (HA5.out.ext hx6)
 clear hx6 HA5
 go_upto_region 2 with (fail)
 have hx7 : Ext w6 (w6.alloc (.cells #[.string S1, .int .i64 (739616 + (k3 : Int) - 10), .string S5, .int .i64 2, .int .i64 1, .string ⟨#[]⟩, .slice none 0 0, .int .i64 0, .int .i64 0, .string ⟨#[]⟩, .slice none 0 0, .string ⟨#[]⟩, .string ⟨#[]⟩] 50)) := (Ext.refl _).alloc _
 have hrx : RX (w6.alloc (.cells #[.string S1, .int .i64 (739616 + (k3 : Int) - 10), .string S5, .int .i64 2, .int .i64 1, .string ⟨#[]⟩, .slice none 0 0, .int .i64 0, .int .i64 0, .string ⟨#[]⟩, .slice none 0 0, .string ⟨#[]⟩, .string ⟨#[]⟩] 50)) w6.heap.size ⟨S1, 739616 + (k3 : Int) - 10, S5, ⟨2, 1, ⟨#[]⟩, none, 0, 0⟩, nd0, ⟨#[]⟩, ⟨#[]⟩⟩ := heap_alloc_new _ _
 have HM0 := Lib.hid (show MS V b A c l (hi + 3) w6.heap.size ⟨S1, 739616 + (k3 : Int) - 10, S5, ⟨2, 1, ⟨#[]⟩, none, 0, 0⟩, nd0, ⟨#[]⟩, ⟨#[]⟩⟩ ⟨s1, 739616 + (k3 : Int) - 10, s5, trTrue, trZero, [], []⟩ _ from
  ⟨(HA6.out.ext hx7).more (by omega), hrx, ⟨HS1.out, rfl, HS5.out, Rep.leaf _ _ 2 1 [], Rep.leaf _ _ 0 0 [], rfl, rfl⟩, HA6.out.mv.size⟩)
 have HQ0 := Lib.hid (show GW0 40 ⟨s1, 739616 + (k3 : Int) - 10, s5, trTrue, trZero, [], []⟩ from ⟨HN1.out, by have := HK3.out; constructor <;> (simp only; omega), HN5.out, true_gd, (by decide : tsz trTrue ≤ 40), .inl rfl, .inl rfl⟩)
 clear hx7 hrx HA6 HS1 HS5 HN1 HN5 HK3 hkI
 generalize w6.alloc (.cells #[.string S1, .int .i64 (739616 + (k3 : Int) - 10), .string S5, .int .i64 2, .int .i64 1, .string ⟨#[]⟩, .slice none 0 0, .int .i64 0, .int .i64 0, .string ⟨#[]⟩, .slice none 0 0, .string ⟨#[]⟩, .string ⟨#[]⟩] 50) = v0 at *
 generalize w6.heap.size = g at *
 generalize (⟨s1, 739616 + (k3 : Int) - 10, s5, trTrue, trZero, [], []⟩ : Rl) = x0 at *
 generalize (⟨S1, 739616 + (k3 : Int) - 10, S5, ⟨2, 1, ⟨#[]⟩, none, 0, 0⟩, nd0, ⟨#[]⟩, ⟨#[]⟩⟩ : RlD) = d0 at *
 go_upto_if 18 with (first | (go_at_call 44; refine (HM0.out.next (by have := HHI.out; omega) 3 3 rfl (by decide) (by decide)).mono ?_; rintro e v1 ⟨q1, rfl, hq1, hm1⟩; have HM1 := Lib.hid hm1; clear hm1))
 go_cut [21] (fun _ wx => ∃ d x, MS V b A c l (hi + 3 + 1 + FN 3) g d x wx ∧ GW0 40 x)
 case first =>
  by_cases hz : q1 = 0
  ·have hqb : ((q1 : Int) == 0) = true := by simp [hz]
   clear hz hq1
   go_wp2_with (first | (go_at_call 98; refine (HM1.out.call HNU.out.2.2 (by have := HHI.out; have := HF3.out; omega) 3 rfl).mono ?_; rintro e v2 ⟨dt, t, rfl, hr, hgt, hm2⟩; have HM2 := Lib.hid hm2; have HR := Lib.hid hr; have HGT := Lib.hid hgt; obtain ⟨y0, y1, y2, y3, y4, y5, y6, y7, y8, y9, y10, y11, y12⟩ := hm2.rx.cs; obtain ⟨z0, z1, z2, z3, z4, z5, z6, z7, z8, z9, z10, z11, z12⟩ := hm2.rx.zs; clear hm2 hr hgt))
   go_meet
   case rel => exact ⟨_, _, HM2.out.setI dt t HR.out, HQ0.out.ift (HGT.out.gd (by decide)) (by have := HGT.out.2; rw [zn3] at this; exact this)⟩
  ·have hqb : ((q1 : Int) == 0) = false := by simp [hz]
   clear hz hq1
   go_wp2_with fail
   go_meet
   case rel => exact ⟨_, _, HM1.out.more (by omega), HQ0.out⟩
 case rest =>
 obtain ⟨d1, x1, hm2, hg2⟩ := hcut
 have HM2 := Lib.hid (hm2.more (show _ ≤ hi + 110 by have := HF3.out; omega))
 have HQ2 := Lib.hid hg2
 clear hm2 hg2 HM0 HM1 HQ0 hq1
 go_upto_region 5 with (first | (go_at_call 99; refine (HM2.out.call HNU.out.2.1 (by have := HHI.out; have := HF3.out; omega) 3 rfl).mono ?_; rintro e v3 ⟨dt, t, rfl, hr, hgt, hm3⟩; have HM3 := Lib.hid hm3; have HR := Lib.hid hr; have HGT := Lib.hid hgt; obtain ⟨y0, y1, y2, y3, y4, y5, y6, y7, y8, y9, y10, y11, y12⟩ := hm3.rx.cs; obtain ⟨z0, z1, z2, z3, z4, z5, z6, z7, z8, z9, z10, z11, z12⟩ := hm3.rx.zs; clear hm3 hr hgt))
 have HM4 := Lib.hid ((HM3.out.setD dt t HR.out).more (show _ ≤ hi + 220 by have := HF3.out; omega))
 have HQ4 := Lib.hid (HQ2.out.due (HGT.out.gd (by decide)) (by have := HGT.out.2; rw [zn3] at this; exact this))
 clear HM2 HM3 HQ2 HR HGT y0 y1 y2 y3 y4 y5 y6 y7 y8 y9 y10 y11 y12 z0 z1 z2 z3 z4 z5 z6 z7 z8 z9 z10 z11 z12
 generalize ((((v3.setCell ⟨g, 7, none⟩ (.int .i64 dt.k)).setCell ⟨g, 8, none⟩ (.int .i64 dt.n)).setCell ⟨g, 9, none⟩ (.string dt.s)).setCell ⟨g, 10, none⟩ (.slice dt.A dt.m dt.c)) = v4 at *
 generalize ({ x1 with due := t } : Rl) = x4 at *
 generalize ({ d1 with due := dt } : RlD) = d4 at *
 go_upto_if 27 with (first | (go_at_call 44; refine (HM4.out.next (by have := HHI.out; omega) 2 2 rfl (by decide) (by decide)).mono ?_; rintro e v5a ⟨q5, rfl, hq5, hm5⟩; have HN5 := Lib.hid hm5; clear hm5))
 go_cut [31] (fun _ wx => ∃ d x, MS V b A c l (hi + 222) g d x wx ∧ GW 40 x)
 case first =>
  by_cases hz : q5 = 0
  ·have hqb : ((q5 : Int) == 0) = true := by simp [hz]
   clear hz hq5
   go_wp2_with fail
   refine (HN5.out.next (by have := HHI.out; omega) 6 6 rfl (by decide) (by decide)).mono ?_
   rintro e v5b ⟨r5, rfl, hr5, hm6⟩
   have HL5 := Lib.hid hm6
   clear hm6
   go_wp2_with (first | (go_at_call 45; refine (kind_any r5 (by omega) _).mono ?_; rintro e v5c ⟨s7, hs7, rfl, hx7⟩; obtain ⟨S7, hS7⟩ : ∃ S, S = bs s7 := ⟨_, rfl⟩; rw [← hS7]; have HS7 := Lib.hid hS7; have HK7 := Lib.hid (kindsL_ok s7 hs7); have HM7 := Lib.hid (HL5.out.ext hx7); obtain ⟨y0, y1, y2, y3, y4, y5, y6, y7, y8, y9, y10, y11, y12⟩ := HM7.out.rx.cs; obtain ⟨z0, z1, z2, z3, z4, z5, z6, z7, z8, z9, z10, z11, z12⟩ := HM7.out.rx.zs; clear hx7 hS7 hs7))
   go_meet
   case rel => exact ⟨_, _, (HM7.out.set11 s7 S7 HS7.out).more (by omega), HQ4.out.un HK7.out⟩
  ·have hqb : ((q5 : Int) == 0) = false := by simp [hz]
   clear hz hq5
   go_wp2_with fail
   go_meet
   case rel => exact ⟨_, _, HN5.out.more (by omega), HQ4.out⟩
 case rest =>
 obtain ⟨d5, x5, hm5, hg5⟩ := hcut
 have HM5 := Lib.hid hm5
 have HQ5 := Lib.hid hg5
 clear hm5 hg5 HM4 HN5 HQ4 hq5
 go_upto_if 34 with (first | (go_at_call 44; refine (HM5.out.next (by have := HHI.out; omega) 2 2 rfl (by decide) (by decide)).mono ?_; rintro e v6a ⟨q6, rfl, hq6, hm5⟩; have HN6 := Lib.hid hm5; clear hm5))
 go_cut [38] (fun _ wx => ∃ d x, MS V b A c l (hi + 224) g d x wx ∧ GW 40 x)
 case first =>
  by_cases hz : q6 = 0
  ·have hqb : ((q6 : Int) == 0) = true := by simp [hz]
   clear hz hq6
   go_wp2_with fail
   refine (HN6.out.next (by have := HHI.out; omega) 6 6 rfl (by decide) (by decide)).mono ?_
   rintro e v6b ⟨r6, rfl, hr6, hm6⟩
   have HL6 := Lib.hid hm6
   clear hm6
   go_wp2_with (first | (go_at_call 45; refine (kind_any r6 (by omega) _).mono ?_; rintro e v6c ⟨s7, hs7, rfl, hx7⟩; obtain ⟨S7, hS7⟩ : ∃ S, S = bs s7 := ⟨_, rfl⟩; rw [← hS7]; have HS7 := Lib.hid hS7; have HK7 := Lib.hid (kindsL_ok s7 hs7); have HM7 := Lib.hid (HL6.out.ext hx7); obtain ⟨y0, y1, y2, y3, y4, y5, y6, y7, y8, y9, y10, y11, y12⟩ := HM7.out.rx.cs; obtain ⟨z0, z1, z2, z3, z4, z5, z6, z7, z8, z9, z10, z11, z12⟩ := HM7.out.rx.zs; clear hx7 hS7 hs7))
   go_meet
   case rel => exact ⟨_, _, (HM7.out.set12 s7 S7 HS7.out).more (by omega), HQ5.out.el HK7.out⟩
  ·have hqb : ((q6 : Int) == 0) = false := by simp [hz]
   clear hz hq6
   go_wp2_with fail
   go_meet
   case rel => exact ⟨_, _, HN6.out.more (by omega), HQ5.out⟩
 case rest =>
 obtain ⟨d6, x6, hm6, hg6⟩ := hcut
 have HM6 := Lib.hid hm6
 have HQ6 := Lib.hid hg6
 have hgx : RX wc W.heap.size rl0 := (hm6.ma.mv.keep W.heap.size (by have := HBB.out; omega) (by have := HVS.out; omega)).trans HGX.out
 clear hm6 hg6 HM5 HN6 HQ5 hq6
 obtain ⟨k0, k1, k2, k3, k4, k5, k6, k7, k8, k9, k10, k11, k12⟩ := HM6.out.rx.cs
 obtain ⟨j0, j1, j2, j3, j4, j5, j6, j7, j8, j9, j10, j11, j12⟩ := hgx.cs
 obtain ⟨z0, z1, z2, z3, z4, z5, z6, z7, z8, z9, z10, z11, z12⟩ := hgx.zs
 clear hgx
 go_wp2
 refine bodyPost_ret (v := d6.val) (by simp [results, Tryz.results47, go_sem, RlD.val, *]) rfl ?_
 exact HM6.out.fin HVS.out HX0.out HBB.out HLA.out HQ6.out (by omega)
end Go.Proofs.YtnpenepdechkjaaGreatDoor
