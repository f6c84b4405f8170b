/- The Maker's rules: Well. -/
import Derived.Test.YtnpenepdechkjaaGreatDoorKl
import Derived.Test.YtnpenepdechkjaaGreatDoorMd
import Derived.Test.YtnpenepdechkjaaGreatDoorKj
import Derived.Test.YtnpenepdechkjaaGreatDoorMg
import Derived.Test.YtnpenepdechkjaaGreatDoorVf
namespace Go.Proofs.YtnpenepdechkjaaGreatDoor
open Go Go.RowKit

/-- Rules that were made. -/
def WlPost (w : World) (B : Nat) (e : Ending) (X : World) : Prop :=
 ∃ (A : Option Addr) (c : Nat) (v : List Rl), e = .returned (.slice A v.length c) ∧ RW X (fun k => w.heap.size ≤ k) A v.length v ∧ v.length ≤ 4 ∧ (∀ x ∈ v, GW B x) ∧ Ext w X
/-- Where the loop stands: n rules are made of k. -/
structure WLp (V : World) (b : Nat) (A : Option Addr) (c : Nat) (l : List Int) (st k : Nat) (B : Nat) (n : Nat) (A4 : Option Addr) (c4 : Nat) (ds : List RlD) (acc : List Rl) (X : World) : Prop where
 dl : ds.length = n
 al : acc.length = n
 nk : n ≤ k
 ma : MA V b A c l (10 + st * n) X
 kr : KRr X V.heap.size (.slice A4 n c4) ds acc
 gw : ∀ x ∈ acc, GW B x
theorem MA.atTop {V X : World} {b : Nat} {A : Option Addr} {c : Nat} {l : List Int} {hi : Nat} (h : MA V b A c l hi X) : MA X b A c l hi X :=
 ⟨h.mb, Mv.refl b X, Nat.lt_of_lt_of_le h.bb h.mv.size, fun h0 x hx => Nat.lt_of_lt_of_le (h.ltA h0 x hx) h.mv.size⟩
theorem MA.trans {V X Y : World} {b : Nat} {A : Option Addr} {c : Nat} {l : List Int} {hi hi' : Nat} (h : MA V b A c l hi X) (h2 : MA X b A c l hi' Y) : MA V b A c l hi' Y :=
 ⟨h2.mb, h.mv.trans h2.mv, h.bb, h.ltA⟩
theorem MA.keep {V X X' : World} {b : Nat} {A : Option Addr} {c : Nat} {l : List Int} {hi : Nat} (h : MA V b A c l hi X) (hm : Mv b V X') (hk : ∀ k, k < V.heap.size → X'.heap[k]? = X.heap[k]?) : MA V b A c l hi X' := by
 obtain ⟨a, h1, h2⟩ := h.mb
 exact ⟨⟨a, h1, h2.keep (hk _ h.bb) (fun h0 x hx => hk _ (h.ltA h0 x hx))⟩, hm, h.bb, h.ltA⟩
def WlRel (V : World) (b : Nat) (A : Option Addr) (c : Nat) (l : List Int) (st k : Nat) (B : Nat) (s4 s6 : Value) (X : World) : Prop :=
 ∃ (n : Nat) (A4 : Option Addr) (c4 : Nat) (ds : List RlD) (acc : List Rl), s4 = .slice A4 n c4 ∧ s6 = .int .i64 n ∧ WLp V b A c l st k B n A4 c4 ds acc X
set_option maxHeartbeats 2000000 in
set_option maxRecDepth 100000 in
theorem well_any (A : Option Addr) (c : Nat) (l : List Int) (w : World) (hb : ∀ n ∈ l, -9223372036854775808 ≤ n ∧ n ≤ 9223372036854775807) (hc : l.length ≤ c) (hc2 : c ≤ 9223372036854775807) (h : SL icf 1 w A l.length l) :
  Calls Tryz.prog 22 #[.slice A l.length c] w (WlPost w 40) := by
 have HIN := Lib.hid (ints_any A c l 120 w (by decide) hc hc2 h)
 have HB := Lib.hid hb
 clear h hb hc hc2
 obtain ⟨m, hm⟩ : ∃ m, m = min l.length 120 := ⟨_, rfl⟩
 rw [← hm] at HIN
 have HMM := Lib.hid (show (l.take m).length = m ∧ m ≤ 120 from ⟨by rw [List.length_take]; omega, by omega⟩)
 clear hm
 go_enter Tryz.func22, Tryz.ntmps22
 go_upto_region 1 with (fail)
 go_wp2_with fail
 refine (HIN.out).mono ?_
 rintro e w1 ⟨A1, c1, rfl, hs1, hx1⟩
 have HS1 := Lib.hid hs1
 have HX1 := Lib.hid hx1
 clear hs1 hx1 HIN
 go_upto_region 2 with (fail)
 have hx2 : Ext w1 (w1.alloc (.cells #[.slice A1 m c1, .int .i64 0] 71)) := (Ext.refl _).alloc _
 have hbk : (w1.alloc (.cells #[.slice A1 m c1, .int .i64 0] 71)).heap[w1.heap.size]? = some (.cells #[.slice A1 m c1, .int .i64 0] 71 (0, 0)) := heap_alloc_new _ _
 have hz2 : (w1.alloc (.cells #[.slice A1 m c1, .int .i64 0] 71)).heap.size = w1.heap.size + 1 := by simp
 generalize w1.alloc (.cells #[.slice A1 m c1, .int .i64 0] 71) = w2 at *
 have HMB := Lib.hid (show MA w2 w1.heap.size A1 c1 (l.take m) 0 w2 from by
  have hlm := HMM.out.1
  have hAb : 0 < (l.take m).length → ∀ x, A1 = some x → x.block < w1.heap.size := fun h0 x hx => by
   have hs := HS1.out
   obtain ⟨b, off, e, hb, _⟩ := hs.2 (by omega)
   rw [e] at hx
   injection hx with hx
   rw [← hx]; exact hb
  exact ⟨⟨0, Nat.le_refl _, ⟨by rw [hlm]; exact hbk, by rw [hlm]; exact HS1.out.ext hx2, fun n hn => HB.out n (List.mem_of_mem_take hn), fun h0 x hx => by have := hAb h0 x hx; omega, by have := HMM.out.2; omega, by omega⟩⟩, Mv.refl _ _, by omega, fun h0 x hx => by have := hAb h0 x hx; omega⟩)
 have HXW := Lib.hid (HX1.out.trans hx2)
 have HWB := Lib.hid (show w.heap.size ≤ w1.heap.size ∧ w1.heap.size < w2.heap.size from ⟨HX1.out.lt, by omega⟩)
 clear hx2 hbk hz2 HS1 HX1
 generalize w1.heap.size = b at *
 generalize l.take m = lm at *
 go_wp2_with fail
 refine (HMB.out.next (by decide) 5 5 rfl (by decide) (by decide)).mono ?_
 rintro e w3 ⟨k, rfl, hk, ha3, _⟩
 have HA3 := Lib.hid ha3
 have HK := Lib.hid hk
 clear ha3 hk
 go_wp2_with fail
 go_loopw [4, 6] (fun s4 s6 X => WlRel w2 b A1 c1 lm 300 k 40 s4 s6 X) (fun _ s6 _ => toM k s6)
 case atStart => exact ⟨0, none, 0, [], [], rfl, rfl, ⟨rfl, rfl, Nat.zero_le _, HA3.out.more (by omega), KRr.nil _ _, fun x hx => by simp at hx⟩⟩
 case round =>
  obtain ⟨n, A4, c4, ds, acc, rfl, rfl, hwl⟩ := hrel
  have HWL := Lib.hid hwl
  have hkk := HK.out
  by_cases hlt : n < k
  case neg =>
   have hni : ¬ (n : Int) < (k : Int) := by omega
   clear hwl
   go_wp2
   go_ret
   obtain ⟨A9, c9, e9, hrow⟩ := HWL.out.kr.row
   have hal := HWL.out.al
   injection e9 with e9 e9n e9c
   subst e9 e9c
   rw [← hal]
   refine ⟨A4, c4, acc, rfl, hrow.mono (fun k hk _ => by have := HWB.out; omega), by have := HWL.out.nk; omega, HWL.out.gw, ?_⟩
   exact HWL.out.ma.mv.ext w HWB.out.1 HXW.out
  have hlI : (n : Int) < (k : Int) := by omega
  have hkI : (k : Int) < 5 := by omega
  have HTY := Lib.hid (typed_any hwl.ma.atTop (by omega))
  have HNL := Lib.hid hlt
  clear hwl hlt
  go_upto_region 7 with (fail)
  go_wp2_with fail
  refine (HTY.out).mono ?_
  rintro e w9 ⟨d, x, rfl, hrep, hgw, hma9⟩
  have HMA9 := Lib.hid (HWL.out.ma.trans hma9)
  have HM9 := Lib.hid hma9.mv
  have HGW := Lib.hid hgw
  have hbV : b < w2.heap.size := HWB.out.2
  have hVr : w2.heap.size ≤ wr.heap.size := HWL.out.ma.mv.size
  obtain ⟨A7, c7, w7, hrun, hkr7, hbel, hkeep, hsz7, hown7⟩ := KRr.append (HWL.out.kr.mv HM9.out hbV) (W := wr) (fun k hk => (HWL.out.kr.lt k hk).2) d x hrep hVr HM9.out.size (by have := HWL.out.dl; omega) w9.heap.size rfl
  rw [HWL.out.dl] at hrun hkr7 hown7
  have HRUN := Lib.hid hrun
  have HKR7 := Lib.hid hkr7
  have HKEEP := Lib.hid hkeep
  have HBEL := Lib.hid hbel
  have HSZ7 := Lib.hid hsz7
  clear hrep hgw hma9 hrun hkr7 hkeep hbel hsz7 hown7 hbV hVr
  unfold RlD.val
  go_wp2_with (first | (at_builtin; refine wpList_append_run (s := .tmp 18) (x := .tmp 21) HRUN.out rfl rfl rfl rfl rfl ?_))
  have hmW := HMA9.out.mv
  have hown : ∀ k9, (Value.slice A4 n c4).ownBlock = some k9 → w2.heap.size ≤ k9 := fun k9 e => (HWL.out.kr.lt k9 e).1
  have hm7 := hmW.grow HWB.out.2 (Nat.le_refl _) HBEL.out HKEEP.out hown HSZ7.out
  refine ⟨⟨n + 1, A7, c7, ds ++ [d], acc ++ [x], rfl, rfl, ⟨by simp [HWL.out.dl], by simp [HWL.out.al], by have := HNL.out; omega, (HMA9.out.keep hm7 (fun k9 h9 => HKEEP.out k9 (Nat.lt_of_lt_of_le h9 hmW.size) (fun e => by have := hown k9 e; omega))).more (by omega), HKR7.out, fun y hy => ?_⟩⟩, ?_⟩
  ·rcases List.mem_append.1 hy with h1 | h1
   ·exact HWL.out.gw y h1
   ·rw [List.mem_singleton.1 h1]; exact HGW.out
  ·simp only [toM]; have := HNL.out; omega
end Go.Proofs.YtnpenepdechkjaaGreatDoor

/- The Maker's rules: Make. -/
namespace Go.Proofs.YtnpenepdechkjaaGreatDoor
open Go Go.RowKit

section
variable {P : Program} {ops : Array Oper} {Q : Exit → Act → World → Prop} {md : Region.Mode} {S T : World → Prop} {E : Nat → Bool}
/-- One of three operations may come up. -/
theorem three {i j k : Nat} {o o' o'' : Oper} {n : Nat} {l : Array Bool} {a : Act} {w : World} (h : ∀ K : Act → World → Prop, NextE P md ops Q S T E n l i K → if Region.wanted o (yielded ops a.tmps) = true then Oper.wp P o a w K Q else K (a.put o.dst undef) w)
  (h' : ∀ K : Act → World → Prop, NextE P md ops Q S T E n l j K → if Region.wanted o' (yielded ops a.tmps) = true then Oper.wp P o' a w K Q else K (a.put o'.dst undef) w)
  (h'' : ∀ K : Act → World → Prop, NextE P md ops Q S T E n l k K → if Region.wanted o'' (yielded ops a.tmps) = true then Oper.wp P o'' a w K Q else K (a.put o''.dst undef) w)
  (ho : ops[i]? = some o := by rfl) (ho' : ops[j]? = some o' := by rfl) (ho'' : ops[k]? = some o'' := by rfl) (hr : Region.ready md ops l = [i, j, k] := by kernel_rfl) : wpE P md ops Q S T E (n + 1) l a w :=
 wpE_all hr (by simp) (AllE.cons ho h (AllE.cons ho' h' (AllE.cons ho'' h'' AllE.nil)))
/-- What follows, with another condition. -/
theorem NextE.go2 {T' : World → Prop} {n : Nat} {l : Array Bool} {i : Nat} {K : Act → World → Prop} {u' : World} {a : Act} (hK : NextE P md ops Q (fun _ => True) T E n l i K) (hz : T u') (ht : ∀ X, T' X → T X)
  (h : wpE P md ops Q (fun _ => True) T' E n (l.setIfInBounds i true) a u') : K a u' :=
 hK.out a u' ⟨fun _ => trivial, hz⟩ fun _ => wpE_strong ht n _ _ _ h
end
theorem RX.put13 {u : World} {g : Nat} {d : RlD} (h : RX u g d) (d' : RlD) : RX (fin13 u g d') g d' := by
 have e0 : RX _ g ⟨d'.name, d.from_, d.on_, ⟨d.if_.k, d.if_.n, d.if_.s, d.if_.A, d.if_.m, d.if_.c⟩, ⟨d.due.k, d.due.n, d.due.s, d.due.A, d.due.m, d.due.c⟩, d.unless_, d.else_⟩ := (heap_setCell_same _ g 0 _ 50 (.string d'.name) h).trans rfl
 have e1 : RX _ g ⟨d'.name, d'.from_, d.on_, ⟨d.if_.k, d.if_.n, d.if_.s, d.if_.A, d.if_.m, d.if_.c⟩, ⟨d.due.k, d.due.n, d.due.s, d.due.A, d.due.m, d.due.c⟩, d.unless_, d.else_⟩ := (heap_setCell_same _ g 1 _ 50 (.int .i64 d'.from_) e0).trans rfl
 have e2 : RX _ g ⟨d'.name, d'.from_, d'.on_, ⟨d.if_.k, d.if_.n, d.if_.s, d.if_.A, d.if_.m, d.if_.c⟩, ⟨d.due.k, d.due.n, d.due.s, d.due.A, d.due.m, d.due.c⟩, d.unless_, d.else_⟩ := (heap_setCell_same _ g 2 _ 50 (.string d'.on_) e1).trans rfl
 have e3 : RX _ g ⟨d'.name, d'.from_, d'.on_, ⟨d'.if_.k, d.if_.n, d.if_.s, d.if_.A, d.if_.m, d.if_.c⟩, ⟨d.due.k, d.due.n, d.due.s, d.due.A, d.due.m, d.due.c⟩, d.unless_, d.else_⟩ := (heap_setCell_same _ g 3 _ 50 (.int .i64 d'.if_.k) e2).trans rfl
 have e4 : RX _ g ⟨d'.name, d'.from_, d'.on_, ⟨d'.if_.k, d'.if_.n, d.if_.s, d.if_.A, d.if_.m, d.if_.c⟩, ⟨d.due.k, d.due.n, d.due.s, d.due.A, d.due.m, d.due.c⟩, d.unless_, d.else_⟩ := (heap_setCell_same _ g 4 _ 50 (.int .i64 d'.if_.n) e3).trans rfl
 have e5 : RX _ g ⟨d'.name, d'.from_, d'.on_, ⟨d'.if_.k, d'.if_.n, d'.if_.s, d.if_.A, d.if_.m, d.if_.c⟩, ⟨d.due.k, d.due.n, d.due.s, d.due.A, d.due.m, d.due.c⟩, d.unless_, d.else_⟩ := (heap_setCell_same _ g 5 _ 50 (.string d'.if_.s) e4).trans rfl
 have e6 : RX _ g ⟨d'.name, d'.from_, d'.on_, ⟨d'.if_.k, d'.if_.n, d'.if_.s, d'.if_.A, d'.if_.m, d'.if_.c⟩, ⟨d.due.k, d.due.n, d.due.s, d.due.A, d.due.m, d.due.c⟩, d.unless_, d.else_⟩ := (heap_setCell_same _ g 6 _ 50 (.slice d'.if_.A d'.if_.m d'.if_.c) e5).trans rfl
 have e7 : RX _ g ⟨d'.name, d'.from_, d'.on_, ⟨d'.if_.k, d'.if_.n, d'.if_.s, d'.if_.A, d'.if_.m, d'.if_.c⟩, ⟨d'.due.k, d.due.n, d.due.s, d.due.A, d.due.m, d.due.c⟩, d.unless_, d.else_⟩ := (heap_setCell_same _ g 7 _ 50 (.int .i64 d'.due.k) e6).trans rfl
 have e8 : RX _ g ⟨d'.name, d'.from_, d'.on_, ⟨d'.if_.k, d'.if_.n, d'.if_.s, d'.if_.A, d'.if_.m, d'.if_.c⟩, ⟨d'.due.k, d'.due.n, d.due.s, d.due.A, d.due.m, d.due.c⟩, d.unless_, d.else_⟩ := (heap_setCell_same _ g 8 _ 50 (.int .i64 d'.due.n) e7).trans rfl
 have e9 : RX _ g ⟨d'.name, d'.from_, d'.on_, ⟨d'.if_.k, d'.if_.n, d'.if_.s, d'.if_.A, d'.if_.m, d'.if_.c⟩, ⟨d'.due.k, d'.due.n, d'.due.s, d.due.A, d.due.m, d.due.c⟩, d.unless_, d.else_⟩ := (heap_setCell_same _ g 9 _ 50 (.string d'.due.s) e8).trans rfl
 have e10 : RX _ g ⟨d'.name, d'.from_, d'.on_, ⟨d'.if_.k, d'.if_.n, d'.if_.s, d'.if_.A, d'.if_.m, d'.if_.c⟩, ⟨d'.due.k, d'.due.n, d'.due.s, d'.due.A, d'.due.m, d'.due.c⟩, d.unless_, d.else_⟩ := (heap_setCell_same _ g 10 _ 50 (.slice d'.due.A d'.due.m d'.due.c) e9).trans rfl
 have e11 : RX _ g ⟨d'.name, d'.from_, d'.on_, ⟨d'.if_.k, d'.if_.n, d'.if_.s, d'.if_.A, d'.if_.m, d'.if_.c⟩, ⟨d'.due.k, d'.due.n, d'.due.s, d'.due.A, d'.due.m, d'.due.c⟩, d'.unless_, d.else_⟩ := (heap_setCell_same _ g 11 _ 50 (.string d'.unless_) e10).trans rfl
 have e12 : RX _ g ⟨d'.name, d'.from_, d'.on_, ⟨d'.if_.k, d'.if_.n, d'.if_.s, d'.if_.A, d'.if_.m, d'.if_.c⟩, ⟨d'.due.k, d'.due.n, d'.due.s, d'.due.A, d'.due.m, d'.due.c⟩, d'.unless_, d'.else_⟩ := (heap_setCell_same _ g 12 _ 50 (.string d'.else_) e11).trans rfl
 exact e12
/-- The rule that has been written into its block. -/
theorem MA.rule {V u : World} {b : Nat} {A : Option Addr} {c : Nat} {l : List Int} {hi g : Nat} (h : MA V b A c l hi u) {d0 : RlD} (hr : RX u g d0) (hg : V.heap.size ≤ g) (d : RlD) (x : Rl) (hx : RepR (fin13 u g d) (fun k => V.heap.size ≤ k ∧ k ≠ g) d x) : MS V b A c l hi g d x (fin13 u g d) := by
 obtain ⟨a, h1, h2⟩ := h.mb
 have hbb := h.bb
 exact ⟨⟨⟨a, h1, h2.keep (fin13_other _ _ _ _ (by omega)) (fun h0 y hy => fin13_other _ _ _ _ (by have := h.ltA h0 y hy; omega))⟩, ⟨Nat.le_trans h.mv.size (Nat.le_of_eq (fin13_size _ _ _).symm), fun k h1 h3 => (fin13_other _ _ _ _ (by omega)).trans (h.mv.keep k h1 h3), (((((((((((((h.mv.setNew (p := ⟨g, 0, none⟩) hg _).setNew (p := ⟨g, 1, none⟩) hg _).setNew (p := ⟨g, 2, none⟩) hg _).setNew (p := ⟨g, 3, none⟩) hg _).setNew (p := ⟨g, 4, none⟩) hg _).setNew (p := ⟨g, 5, none⟩) hg _).setNew (p := ⟨g, 6, none⟩) hg _).setNew (p := ⟨g, 7, none⟩) hg _).setNew (p := ⟨g, 8, none⟩) hg _).setNew (p := ⟨g, 9, none⟩) hg _).setNew (p := ⟨g, 10, none⟩) hg _).setNew (p := ⟨g, 11, none⟩) hg _).setNew (p := ⟨g, 12, none⟩) hg _).3⟩, h.bb, h.ltA⟩, hr.put13 d, hx, hg⟩
def mkL : List (List UInt8) := [[114, 101, 112, 108, 121], [120, 49], [97, 98, 99, 100, 101, 102, 103, 104, 105, 106, 107, 57]]
theorem mkL_ok : ∀ s ∈ mkL, NmOK s := by
 intro s hs
 simp only [mkL, List.mem_cons, List.not_mem_nil, or_false] at hs
 rcases hs with rfl | rfl | rfl <;> exact ⟨⟨by decide, by decide, rfl⟩, by decide⟩
theorem SR.blk {X X' : World} {g : Nat} {ss : List (List UInt8)} (h : SR X g ss) (hk : X'.heap[g]? = X.heap[g]?) (hs : X.heap.size ≤ X'.heap.size) : SR X' g ss := ⟨Nat.lt_of_lt_of_le h.lt hs, fun j s hs => by rw [World.cell?_of_block (a := ⟨g, j, none⟩) hk]; exact h.at_ j s hs⟩
/-! ### The states of the region that begins a rule: x, the row of names is made; y, the rule's block is made; p calls are made -/
def pc (f : Bool) (a : Act) (d : Tmp) (v : Value) : Act := match f with
 | true => a.put (some d) v
 | false => a
theorem pcT (a : Act) (d : Tmp) (v : Value) : pc true a d v = a.put (some d) v := rfl
theorem pcF (a : Act) (d : Tmp) (v : Value) : pc false a d v = a := rfl
def N7 (x y : Bool) (p : Nat) : Nat := 11 - (x.toNat + y.toNat + p + 2 * (x && decide (1 ≤ p)).toNat + (x && decide (5 ≤ p)).toNat)
def L7 (x y : Bool) (p : Nat) : Array Bool := #[x, true, decide (1 ≤ p), x && decide (1 ≤ p), x && decide (1 ≤ p), true, decide (2 ≤ p), true, decide (3 ≤ p), decide (4 ≤ p), decide (5 ≤ p), x && decide (5 ≤ p), y, false]
def A7 (a0 : Act) (x y : Bool) (p : Nat) (gx gy k1 k2 k3 : Nat) (S1 S4 : ByteArray) : Act :=
 pc (x && decide (5 ≤ p)) (pc (decide (5 ≤ p)) (pc (decide (4 ≤ p)) (pc (decide (3 ≤ p)) (pc (decide (2 ≤ p)) (pc (x && decide (1 ≤ p)) (pc (x && decide (1 ≤ p)) (pc (decide (1 ≤ p)) (pc y (pc x a0 19 (.slice (some ⟨gx, 0, none⟩) 3 3)) 7 (.pointer (some ⟨gy, 0, none⟩))) 21 (.int .i64 k1)) 22 (.pointer (some ⟨gx, k1, none⟩))) 23 (.string S1)) 25 (.int .i64 k2)) 27 (.int .i64 k3)) 28 (.string S4)) 29 (.agg #[.int .i64 2, .int .i64 1, .string ⟨#[]⟩, .slice none 0 0])) 30 (.agg #[.string S1, .int .i64 k2, .string S4, .int .i64 2, .int .i64 1, .string ⟨#[]⟩, .slice none 0 0, .int .i64 0, .int .i64 0, .string ⟨#[]⟩, .slice none 0 0, .string ⟨#[]⟩, .string ⟨#[]⟩])
def T7 (x : Bool) (gx : Nat) : World → Prop := match x with
 | true => fun X => SR X gx mkL
 | false => fun _ => True
theorem T7t (gx : Nat) : T7 true gx = fun X => SR X gx mkL := rfl
theorem T7f (gx : Nat) : T7 false gx = fun _ => True := rfl
structure F7 (V : World) (b : Nat) (A : Option Addr) (c : Nat) (l : List Int) (hi : Nat) (x y : Bool) (p : Nat) (gx gy k1 k2 k3 : Nat) (s1 s4 : List UInt8) (S1 S4 : ByteArray) (u : World) : Prop where
 ma : MA V b A c l (hi + min p 3) u
 sx : x = true → SR u gx mkL ∧ gx ≠ b
 sy : y = true → RX u gy rl0 ∧ gy ≠ b ∧ V.heap.size ≤ gy
 xy : x = true → y = true → gx ≠ gy
 f1 : 1 ≤ p → mkL[k1]? = some s1 ∧ S1 = bs s1
 f2 : 2 ≤ p → k2 < 3652059
 f3 : 3 ≤ p → k3 < 6
 f4 : 4 ≤ p → s4 ∈ kindsL ∧ S4 = bs s4
def I7 (V : World) (b : Nat) (A : Option Addr) (c : Nat) (l : List Int) (hi : Nat) (a0 : Act) (n : Nat) (lst : Array Bool) (a : Act) (u : World) (T : World → Prop) : Prop :=
 ∃ (x y : Bool) (p gx gy k1 k2 k3 : Nat) (s1 s4 : List UInt8) (S1 S4 : ByteArray), p ≤ 5 ∧ n = N7 x y p ∧ lst = L7 x y p ∧ a = A7 a0 x y p gx gy k1 k2 k3 S1 S4 ∧ T = T7 x gx ∧ F7 V b A c l hi x y p gx gy k1 k2 k3 s1 s4 S1 S4 u
/-- A region's states, each by those with less to do. -/
theorem wpE_states {P : Program} {md : Region.Mode} {ops : Array Oper} {Q : Exit → Act → World → Prop} {E : Nat → Bool} (I : Nat → Array Bool → Act → World → (World → Prop) → Prop)
  (step : ∀ n l a u T, (∀ n' l' a' u' T', n' < n → I n' l' a' u' T' → wpE P md ops Q (fun _ => True) T' E n' l' a' u') → I n l a u T → wpE P md ops Q (fun _ => True) T E n l a u) :
  ∀ N n l a u T, n < N → I n l a u T → wpE P md ops Q (fun _ => True) T E n l a u
 | 0, _, _, _, _, _, h, _ => absurd h (Nat.not_lt_zero _)
 | N + 1, n, l, a, u, T, h, hI => step n l a u T (fun n' l' a' u' T' h' hI' => wpE_states I step N n' l' a' u' T' (by omega) hI') hI
theorem wpE_from {P : Program} {md : Region.Mode} {ops : Array Oper} {Q : Exit → Act → World → Prop} {S T : World → Prop} {E : Nat → Bool} {n : Nat} {l : Array Bool} {a : Act} {u : World} (h : ∀ a0, a0 = a → wpE P md ops Q S T E n l a0 u) : wpE P md ops Q S T E n l a u := h a rfl
theorem FN4 : FN 4 = 322 := by decide
theorem zn4 : ZN 4 = 121 := by decide
set_option linter.unusedSimpArgs false in
set_option maxHeartbeats 8000000 in
set_option maxRecDepth 100000 in
theorem make_any (A : Option Addr) (c : Nat) (l : List Int) (w : World) (hb : ∀ n ∈ l, -9223372036854775808 ≤ n ∧ n ≤ 9223372036854775807) (hc : l.length ≤ c) (hc2 : c ≤ 9223372036854775807) (h : SL icf 1 w A l.length l) :
  Calls Tryz.prog 21 #[.slice A l.length c] w (WlPost w 121) := by
 have HIN := Lib.hid (ints_any A c l 150 w (by decide) hc hc2 h)
 have HB := Lib.hid hb
 clear h hb hc hc2
 obtain ⟨m, hm⟩ : ∃ m, m = min l.length 150 := ⟨_, rfl⟩
 rw [← hm] at HIN
 have HMM := Lib.hid (show (l.take m).length = m ∧ m ≤ 150 from ⟨by rw [List.length_take]; omega, by omega⟩)
 clear hm
 go_enter Tryz.func21, Tryz.ntmps21
 go_upto_region 1 with (fail)
 go_wp2_with fail
 refine (HIN.out).mono ?_
 rintro e w1 ⟨A1, c1, rfl, hs1, hx1⟩
 have HS1 := Lib.hid hs1
 have HX1 := Lib.hid hx1
 clear hs1 hx1 HIN
 go_upto_region 2 with (fail)
 have hx2 : Ext w1 (w1.alloc (.cells #[.slice A1 m c1, .int .i64 0] 71)) := (Ext.refl _).alloc _
 have hbk : (w1.alloc (.cells #[.slice A1 m c1, .int .i64 0] 71)).heap[w1.heap.size]? = some (.cells #[.slice A1 m c1, .int .i64 0] 71 (0, 0)) := heap_alloc_new _ _
 have hz2 : (w1.alloc (.cells #[.slice A1 m c1, .int .i64 0] 71)).heap.size = w1.heap.size + 1 := by simp
 generalize w1.alloc (.cells #[.slice A1 m c1, .int .i64 0] 71) = w2 at *
 have HMB := Lib.hid (show MA w2 w1.heap.size A1 c1 (l.take m) 0 w2 from by
  have hlm := HMM.out.1
  have hAb : 0 < (l.take m).length → ∀ x, A1 = some x → x.block < w1.heap.size := fun h0 x hx => by
   have hs := HS1.out
   obtain ⟨b, off, e, hb, _⟩ := hs.2 (by omega)
   rw [e] at hx
   injection hx with hx
   rw [← hx]; exact hb
  exact ⟨⟨0, Nat.le_refl _, ⟨by rw [hlm]; exact hbk, by rw [hlm]; exact HS1.out.ext hx2, fun n hn => HB.out n (List.mem_of_mem_take hn), fun h0 x hx => by have := hAb h0 x hx; omega, by have := HMM.out.2; omega, by omega⟩⟩, Mv.refl _ _, by omega, fun h0 x hx => by have := hAb h0 x hx; omega⟩)
 have HXW := Lib.hid (HX1.out.trans hx2)
 have HWB := Lib.hid (show w.heap.size ≤ w1.heap.size ∧ w1.heap.size < w2.heap.size from ⟨HX1.out.lt, by omega⟩)
 clear hx2 hbk hz2 HS1 HX1
 generalize w1.heap.size = b at *
 generalize l.take m = lm at *
 go_wp2_with fail
 refine (HMB.out.next (by decide) 4 4 rfl (by decide) (by decide)).mono ?_
 rintro e w3 ⟨k, rfl, hk, ha3, _⟩
 have HA3 := Lib.hid ha3
 have HK := Lib.hid hk
 clear ha3 hk
 go_wp2_with fail
 go_loopw [4, 6] (fun s4 s6 X => WlRel w2 b A1 c1 lm 700 k 121 s4 s6 X) (fun _ s6 _ => toM k s6)
 case atStart => exact ⟨0, none, 0, [], [], rfl, rfl, ⟨rfl, rfl, Nat.zero_le _, HA3.out.more (by omega), KRr.nil _ _, fun x hx => by simp at hx⟩⟩
 case round =>
 obtain ⟨n, A4, c4, ds, acc, rfl, rfl, hwl⟩ := hrel
 have HWL := Lib.hid hwl
 have hkk := HK.out
 by_cases hlt : n < k
 case neg =>
  have hni : ¬ (n : Int) < (k : Int) := by omega
  clear hwl
  go_wp2
  go_ret
  obtain ⟨A9, c9, e9, hrow⟩ := HWL.out.kr.row
  have hal := HWL.out.al
  injection e9 with e9 e9n e9c
  subst e9 e9c
  rw [← hal]
  refine ⟨A4, c4, acc, rfl, hrow.mono (fun k hk _ => by have := HWB.out; omega), by have := HWL.out.nk; omega, HWL.out.gw, ?_⟩
  exact HWL.out.ma.mv.ext w HWB.out.1 HXW.out
 have hlI : (n : Int) < (k : Int) := by omega
 have hkI : (k : Int) < 4 := by omega
 have HA0 := Lib.hid hwl.ma.atTop
 have HNL := Lib.hid hlt
 have hnB : 10 + 700 * n + 800 ≤ 1000000 := by omega
 clear hwl hlt
 go_upto_region 7 with (fail)
 go_cut [7] (fun s7 wx => ∃ g d x, s7 = .pointer (some ⟨g, 0, none⟩) ∧ MS wr b A1 c1 lm (10 + 700 * n + 3) g d x wx ∧ GW0 121 x)
 case first =>
  clear HNL hlI hkI hkk HWL HK HA3 HMB HXW HMM HB
  generalize hV : wr = V at *
  generalize hHI : 10 + 700 * n = hi at *
  refine wp_region_E (fun _ => True) (fun _ => True) (fun _ => true) (by kernel_rfl) ?_
  obtain ⟨u9, hu9, hx9⟩ : ∃ x, V.drew = x ∧ Ext V x := ⟨_, rfl, (Ext.refl _).drew⟩
  rw [hu9]
  clear hu9 hV hHI
  have HA := Lib.hid (HA0.out.ext hx9)
  clear hx9
  refine tkA (i := 1) (d := some 20) (v := .pointer (some ⟨b, 0, none⟩)) trivial ?_ ?_
  ·(intro w9 hT9; clear hT9; go_simp; try with_reducible rfl)
  (try simp only [Act.put, List.setIfInBounds_toArray, List.set_cons_zero, List.set_cons_succ])
  refine tkA (i := 5) (d := some 24) (v := .pointer (some ⟨b, 0, none⟩)) trivial ?_ ?_
  ·(intro w9 hT9; clear hT9; go_simp; try with_reducible rfl)
  (try simp only [Act.put, List.setIfInBounds_toArray, List.set_cons_zero, List.set_cons_succ])
  refine tkA (i := 7) (d := some 26) (v := .pointer (some ⟨b, 0, none⟩)) trivial ?_ ?_
  ·(intro w9 hT9; clear hT9; go_simp; try with_reducible rfl)
  (try simp only [Act.put, List.setIfInBounds_toArray, List.set_cons_zero, List.set_cons_succ])
  refine wpE_from (fun a0 h0 => ?_)
  refine wpE_states (I7 V b A1 c1 lm hi a0) ?_ 12 _ _ _ _ _ (by decide) ⟨false, false, 0, 0, 0, 0, 0, 0, [], [], ⟨#[]⟩, ⟨#[]⟩, by decide, rfl, rfl, rfl, rfl, ⟨HA.out.more (by omega), (fun h => Bool.noConfusion h), (fun h => Bool.noConfusion h), (fun h => Bool.noConfusion h), (fun h => absurd h (by decide)), (fun h => absurd h (by decide)), (fun h => absurd h (by decide)), (fun h => absurd h (by decide))⟩⟩
  clear HA HA0
  rintro n l a u T ih ⟨x, y, p, gx, gy, k1, k2, k3, s1, s4, S1, S4, hp, rfl, rfl, rfl, rfl, hF⟩
  have HF := Lib.hid hF
  clear hF
  replace hp : p = 0 ∨ p = 1 ∨ p = 2 ∨ p = 3 ∨ p = 4 ∨ p = 5 := by omega
  cases x
  ·cases y with
   | false =>
    rcases hp with rfl | rfl | rfl | rfl | rfl | rfl
    ·simp only [N7, L7, A7, pcT, pcF, T7t, T7f, h0, Act.put, List.setIfInBounds_toArray, List.set_cons_zero, List.set_cons_succ, Nat.reduceLeDiff, Nat.reduceAdd, Nat.reduceSub, decide_true, decide_false, Bool.and_true, Bool.and_false, Bool.true_and, Bool.false_and, Bool.toNat_true, Bool.toNat_false, Nat.le_refl, Nat.reduceMul]
     refine three (i := 0) (j := 2) (k := 12) (fun K hK => ?_) (fun K hK => ?_) (fun K hK => ?_)
     ·simp only [List.getElem_toArray, List.getElem_cons_zero]; go_simp
      have hx9 : Ext u (u.alloc (.cells #[.string ⟨#[114, 101, 112, 108, 121]⟩, .string ⟨#[120, 49]⟩, .string ⟨#[97, 98, 99, 100, 101, 102, 103, 104, 105, 106, 107, 57]⟩] 9)) := (Ext.refl _).alloc _
      have hs9 := SR.new u mkL #[.string ⟨#[114, 101, 112, 108, 121]⟩, .string ⟨#[120, 49]⟩, .string ⟨#[97, 98, 99, 100, 101, 102, 103, 104, 105, 106, 107, 57]⟩] rfl
      have hg9 : u.heap.size ≠ b := by have := HF.out.ma.bb; have := HF.out.ma.mv.size; omega
      generalize u.alloc (.cells #[.string ⟨#[114, 101, 112, 108, 121]⟩, .string ⟨#[120, 49]⟩, .string ⟨#[97, 98, 99, 100, 101, 102, 103, 104, 105, 106, 107, 57]⟩] 9) = u9 at *
      generalize u.heap.size = gx at *
      refine NextE.go2 (T' := fun X => SR X gx mkL) hK trivial (fun _ _ => trivial) ?_
      clear hK K
      (try simp only [Act.put, List.setIfInBounds_toArray, List.set_cons_zero, List.set_cons_succ])
      have HSX := Lib.hid hs9
      exact ih _ _ _ _ _ (by decide) ⟨true, false, 0, gx, gy, k1, k2, k3, s1, s4, S1, S4, by decide, rfl, rfl, by simp only [A7, pcT, pcF, h0, Act.put, List.setIfInBounds_toArray, List.set_cons_zero, List.set_cons_succ, Nat.reduceLeDiff, Nat.reduceAdd, Nat.reduceSub, decide_true, decide_false, Bool.and_true, Bool.and_false, Bool.true_and, Bool.false_and, Bool.toNat_true, Bool.toNat_false, Nat.le_refl, Nat.reduceMul], rfl, ⟨(HF.out.ma.ext hx9).more (by omega), (fun _ => ⟨HSX.out, hg9⟩), (fun h => Bool.noConfusion h), (fun _ h => Bool.noConfusion h), (fun h => absurd h (by decide)), (fun h => absurd h (by decide)), (fun h => absurd h (by decide)), (fun h => absurd h (by decide))⟩⟩
     ·simp only [List.getElem_toArray, List.getElem_cons_succ, List.getElem_cons_zero]; go_simp
      go_at_call 44
      refine (HF.out.ma.next (by omega) 3 3 rfl (by decide) (by decide)).mono ?_
      rintro e u9 ⟨k1, rfl, hk1, ha9, hm9⟩
      simp only []
      have hk1I : (k1 : Int) < 3 := by omega
      obtain ⟨s1, hs1⟩ : ∃ s, mkL[k1]? = some s := ⟨_, List.getElem?_eq_getElem (by simpa [mkL] using hk1)⟩
      obtain ⟨S1, hS1⟩ : ∃ S, S = bs s1 := ⟨_, rfl⟩
      have G1 := Lib.hid hs1
      have ES1 := Lib.hid hS1
      clear hs1 hS1
      refine NextE.go2 (T' := (fun _ => True)) hK trivial (fun _ h9 => h9) ?_
      clear hK K
      (try simp only [Act.put, List.setIfInBounds_toArray, List.set_cons_zero, List.set_cons_succ])
      exact ih _ _ _ _ _ (by decide) ⟨false, false, 1, gx, gy, k1, k2, k3, s1, s4, S1, S4, by decide, rfl, rfl, by simp only [A7, pcT, pcF, h0, Act.put, List.setIfInBounds_toArray, List.set_cons_zero, List.set_cons_succ, Nat.reduceLeDiff, Nat.reduceAdd, Nat.reduceSub, decide_true, decide_false, Bool.and_true, Bool.and_false, Bool.true_and, Bool.false_and, Bool.toNat_true, Bool.toNat_false, Nat.le_refl, Nat.reduceMul], rfl, ⟨ha9.more (by omega), (fun h => Bool.noConfusion h), (fun h => Bool.noConfusion h), (fun h => Bool.noConfusion h), (fun _ => ⟨G1.out, ES1.out⟩), (fun h => absurd h (by decide)), (fun h => absurd h (by decide)), (fun h => absurd h (by decide))⟩⟩
     ·simp only [List.getElem_toArray, List.getElem_cons_succ, List.getElem_cons_zero]; go_simp
      have hx9 : Ext u (u.alloc (.cells #[.string ⟨#[]⟩, .int .i64 0, .string ⟨#[]⟩, .int .i64 0, .int .i64 0, .string ⟨#[]⟩, .slice none 0 0, .int .i64 0, .int .i64 0, .string ⟨#[]⟩, .slice none 0 0, .string ⟨#[]⟩, .string ⟨#[]⟩] 50)) := (Ext.refl _).alloc _
      have hr9 : RX (u.alloc (.cells #[.string ⟨#[]⟩, .int .i64 0, .string ⟨#[]⟩, .int .i64 0, .int .i64 0, .string ⟨#[]⟩, .slice none 0 0, .int .i64 0, .int .i64 0, .string ⟨#[]⟩, .slice none 0 0, .string ⟨#[]⟩, .string ⟨#[]⟩] 50)) u.heap.size rl0 := heap_alloc_new _ _
      have hg9 : u.heap.size ≠ b := by have := HF.out.ma.bb; have := HF.out.ma.mv.size; omega
      have hgV : V.heap.size ≤ u.heap.size := HF.out.ma.mv.size
      generalize u.alloc (.cells #[.string ⟨#[]⟩, .int .i64 0, .string ⟨#[]⟩, .int .i64 0, .int .i64 0, .string ⟨#[]⟩, .slice none 0 0, .int .i64 0, .int .i64 0, .string ⟨#[]⟩, .slice none 0 0, .string ⟨#[]⟩, .string ⟨#[]⟩] 50) = u9 at *
      generalize u.heap.size = gy at *
      refine NextE.go2 (T' := (fun _ => True)) hK trivial (fun _ h9 => h9) ?_
      clear hK K
      (try simp only [Act.put, List.setIfInBounds_toArray, List.set_cons_zero, List.set_cons_succ])
      exact ih _ _ _ _ _ (by decide) ⟨false, true, 0, gx, gy, k1, k2, k3, s1, s4, S1, S4, by decide, rfl, rfl, by simp only [A7, pcT, pcF, h0, Act.put, List.setIfInBounds_toArray, List.set_cons_zero, List.set_cons_succ, Nat.reduceLeDiff, Nat.reduceAdd, Nat.reduceSub, decide_true, decide_false, Bool.and_true, Bool.and_false, Bool.true_and, Bool.false_and, Bool.toNat_true, Bool.toNat_false, Nat.le_refl, Nat.reduceMul], rfl, ⟨(HF.out.ma.ext hx9).more (by omega), (fun h => Bool.noConfusion h), (fun _ => ⟨hr9, hg9, hgV⟩), (fun h => Bool.noConfusion h), (fun h => absurd h (by decide)), (fun h => absurd h (by decide)), (fun h => absurd h (by decide)), (fun h => absurd h (by decide))⟩⟩
    ·simp only [N7, L7, A7, pcT, pcF, T7t, T7f, h0, Act.put, List.setIfInBounds_toArray, List.set_cons_zero, List.set_cons_succ, Nat.reduceLeDiff, Nat.reduceAdd, Nat.reduceSub, decide_true, decide_false, Bool.and_true, Bool.and_false, Bool.true_and, Bool.false_and, Bool.toNat_true, Bool.toNat_false, Nat.le_refl, Nat.reduceMul]
     refine three (i := 0) (j := 6) (k := 12) (fun K hK => ?_) (fun K hK => ?_) (fun K hK => ?_)
     ·simp only [List.getElem_toArray, List.getElem_cons_zero]; go_simp
      have hx9 : Ext u (u.alloc (.cells #[.string ⟨#[114, 101, 112, 108, 121]⟩, .string ⟨#[120, 49]⟩, .string ⟨#[97, 98, 99, 100, 101, 102, 103, 104, 105, 106, 107, 57]⟩] 9)) := (Ext.refl _).alloc _
      have hs9 := SR.new u mkL #[.string ⟨#[114, 101, 112, 108, 121]⟩, .string ⟨#[120, 49]⟩, .string ⟨#[97, 98, 99, 100, 101, 102, 103, 104, 105, 106, 107, 57]⟩] rfl
      have hg9 : u.heap.size ≠ b := by have := HF.out.ma.bb; have := HF.out.ma.mv.size; omega
      generalize u.alloc (.cells #[.string ⟨#[114, 101, 112, 108, 121]⟩, .string ⟨#[120, 49]⟩, .string ⟨#[97, 98, 99, 100, 101, 102, 103, 104, 105, 106, 107, 57]⟩] 9) = u9 at *
      generalize u.heap.size = gx at *
      refine NextE.go2 (T' := fun X => SR X gx mkL) hK trivial (fun _ _ => trivial) ?_
      clear hK K
      (try simp only [Act.put, List.setIfInBounds_toArray, List.set_cons_zero, List.set_cons_succ])
      have HSX := Lib.hid hs9
      have G1 := Lib.hid (HF.out.f1 (by decide)).1
      have ES1 := Lib.hid (HF.out.f1 (by decide)).2
      have hk1I : (k1 : Int) < 3 := by have h9 := (List.getElem?_eq_some_iff.1 G1.out).1; simp only [mkL, List.length_cons, List.length_nil] at h9; omega
      refine tkA (i := 3) (d := some 22) (v := .pointer (some ⟨gx, k1, none⟩)) HSX.out ?_ ?_
      ·(intro w9 hT9; clear hT9; go_simp; try with_reducible rfl)
      (try simp only [Act.put, List.setIfInBounds_toArray, List.set_cons_zero, List.set_cons_succ])
      refine tkA (i := 4) (d := some 23) (v := .string S1) HSX.out ?_ ?_
      ·(intro w9 hT9; have q9 := hT9.at_ _ _ G1.out; rw [← ES1.out] at q9; go_simp; try with_reducible rfl)
      (try simp only [Act.put, List.setIfInBounds_toArray, List.set_cons_zero, List.set_cons_succ])
      exact ih _ _ _ _ _ (by decide) ⟨true, false, 1, gx, gy, k1, k2, k3, s1, s4, S1, S4, by decide, rfl, rfl, by simp only [A7, pcT, pcF, h0, Act.put, List.setIfInBounds_toArray, List.set_cons_zero, List.set_cons_succ, Nat.reduceLeDiff, Nat.reduceAdd, Nat.reduceSub, decide_true, decide_false, Bool.and_true, Bool.and_false, Bool.true_and, Bool.false_and, Bool.toNat_true, Bool.toNat_false, Nat.le_refl, Nat.reduceMul], rfl, ⟨(HF.out.ma.ext hx9).more (by omega), (fun _ => ⟨HSX.out, hg9⟩), (fun h => Bool.noConfusion h), (fun _ h => Bool.noConfusion h), (fun _ => HF.out.f1 (by decide)), (fun h => absurd h (by decide)), (fun h => absurd h (by decide)), (fun h => absurd h (by decide))⟩⟩
     ·simp only [List.getElem_toArray, List.getElem_cons_succ, List.getElem_cons_zero]; go_simp
      go_at_call 44
      refine (HF.out.ma.next (by omega) 3652059 3652059 rfl (by decide) (by decide)).mono ?_
      rintro e u9 ⟨k2, rfl, hk2, ha9, hm9⟩
      simp only []
      refine NextE.go2 (T' := (fun _ => True)) hK trivial (fun _ h9 => h9) ?_
      clear hK K
      (try simp only [Act.put, List.setIfInBounds_toArray, List.set_cons_zero, List.set_cons_succ])
      exact ih _ _ _ _ _ (by decide) ⟨false, false, 2, gx, gy, k1, k2, k3, s1, s4, S1, S4, by decide, rfl, rfl, by simp only [A7, pcT, pcF, h0, Act.put, List.setIfInBounds_toArray, List.set_cons_zero, List.set_cons_succ, Nat.reduceLeDiff, Nat.reduceAdd, Nat.reduceSub, decide_true, decide_false, Bool.and_true, Bool.and_false, Bool.true_and, Bool.false_and, Bool.toNat_true, Bool.toNat_false, Nat.le_refl, Nat.reduceMul], rfl, ⟨ha9.more (by omega), (fun h => Bool.noConfusion h), (fun h => Bool.noConfusion h), (fun h => Bool.noConfusion h), (fun _ => HF.out.f1 (by decide)), (fun _ => hk2), (fun h => absurd h (by decide)), (fun h => absurd h (by decide))⟩⟩
     ·simp only [List.getElem_toArray, List.getElem_cons_succ, List.getElem_cons_zero]; go_simp
      have hx9 : Ext u (u.alloc (.cells #[.string ⟨#[]⟩, .int .i64 0, .string ⟨#[]⟩, .int .i64 0, .int .i64 0, .string ⟨#[]⟩, .slice none 0 0, .int .i64 0, .int .i64 0, .string ⟨#[]⟩, .slice none 0 0, .string ⟨#[]⟩, .string ⟨#[]⟩] 50)) := (Ext.refl _).alloc _
      have hr9 : RX (u.alloc (.cells #[.string ⟨#[]⟩, .int .i64 0, .string ⟨#[]⟩, .int .i64 0, .int .i64 0, .string ⟨#[]⟩, .slice none 0 0, .int .i64 0, .int .i64 0, .string ⟨#[]⟩, .slice none 0 0, .string ⟨#[]⟩, .string ⟨#[]⟩] 50)) u.heap.size rl0 := heap_alloc_new _ _
      have hg9 : u.heap.size ≠ b := by have := HF.out.ma.bb; have := HF.out.ma.mv.size; omega
      have hgV : V.heap.size ≤ u.heap.size := HF.out.ma.mv.size
      generalize u.alloc (.cells #[.string ⟨#[]⟩, .int .i64 0, .string ⟨#[]⟩, .int .i64 0, .int .i64 0, .string ⟨#[]⟩, .slice none 0 0, .int .i64 0, .int .i64 0, .string ⟨#[]⟩, .slice none 0 0, .string ⟨#[]⟩, .string ⟨#[]⟩] 50) = u9 at *
      generalize u.heap.size = gy at *
      refine NextE.go2 (T' := (fun _ => True)) hK trivial (fun _ h9 => h9) ?_
      clear hK K
      (try simp only [Act.put, List.setIfInBounds_toArray, List.set_cons_zero, List.set_cons_succ])
      exact ih _ _ _ _ _ (by decide) ⟨false, true, 1, gx, gy, k1, k2, k3, s1, s4, S1, S4, by decide, rfl, rfl, by simp only [A7, pcT, pcF, h0, Act.put, List.setIfInBounds_toArray, List.set_cons_zero, List.set_cons_succ, Nat.reduceLeDiff, Nat.reduceAdd, Nat.reduceSub, decide_true, decide_false, Bool.and_true, Bool.and_false, Bool.true_and, Bool.false_and, Bool.toNat_true, Bool.toNat_false, Nat.le_refl, Nat.reduceMul], rfl, ⟨(HF.out.ma.ext hx9).more (by omega), (fun h => Bool.noConfusion h), (fun _ => ⟨hr9, hg9, hgV⟩), (fun h => Bool.noConfusion h), (fun _ => HF.out.f1 (by decide)), (fun h => absurd h (by decide)), (fun h => absurd h (by decide)), (fun h => absurd h (by decide))⟩⟩
    ·simp only [N7, L7, A7, pcT, pcF, T7t, T7f, h0, Act.put, List.setIfInBounds_toArray, List.set_cons_zero, List.set_cons_succ, Nat.reduceLeDiff, Nat.reduceAdd, Nat.reduceSub, decide_true, decide_false, Bool.and_true, Bool.and_false, Bool.true_and, Bool.false_and, Bool.toNat_true, Bool.toNat_false, Nat.le_refl, Nat.reduceMul]
     refine three (i := 0) (j := 8) (k := 12) (fun K hK => ?_) (fun K hK => ?_) (fun K hK => ?_)
     ·simp only [List.getElem_toArray, List.getElem_cons_zero]; go_simp
      have hx9 : Ext u (u.alloc (.cells #[.string ⟨#[114, 101, 112, 108, 121]⟩, .string ⟨#[120, 49]⟩, .string ⟨#[97, 98, 99, 100, 101, 102, 103, 104, 105, 106, 107, 57]⟩] 9)) := (Ext.refl _).alloc _
      have hs9 := SR.new u mkL #[.string ⟨#[114, 101, 112, 108, 121]⟩, .string ⟨#[120, 49]⟩, .string ⟨#[97, 98, 99, 100, 101, 102, 103, 104, 105, 106, 107, 57]⟩] rfl
      have hg9 : u.heap.size ≠ b := by have := HF.out.ma.bb; have := HF.out.ma.mv.size; omega
      generalize u.alloc (.cells #[.string ⟨#[114, 101, 112, 108, 121]⟩, .string ⟨#[120, 49]⟩, .string ⟨#[97, 98, 99, 100, 101, 102, 103, 104, 105, 106, 107, 57]⟩] 9) = u9 at *
      generalize u.heap.size = gx at *
      refine NextE.go2 (T' := fun X => SR X gx mkL) hK trivial (fun _ _ => trivial) ?_
      clear hK K
      (try simp only [Act.put, List.setIfInBounds_toArray, List.set_cons_zero, List.set_cons_succ])
      have HSX := Lib.hid hs9
      have G1 := Lib.hid (HF.out.f1 (by decide)).1
      have ES1 := Lib.hid (HF.out.f1 (by decide)).2
      have hk1I : (k1 : Int) < 3 := by have h9 := (List.getElem?_eq_some_iff.1 G1.out).1; simp only [mkL, List.length_cons, List.length_nil] at h9; omega
      refine tkA (i := 3) (d := some 22) (v := .pointer (some ⟨gx, k1, none⟩)) HSX.out ?_ ?_
      ·(intro w9 hT9; clear hT9; go_simp; try with_reducible rfl)
      (try simp only [Act.put, List.setIfInBounds_toArray, List.set_cons_zero, List.set_cons_succ])
      refine tkA (i := 4) (d := some 23) (v := .string S1) HSX.out ?_ ?_
      ·(intro w9 hT9; have q9 := hT9.at_ _ _ G1.out; rw [← ES1.out] at q9; go_simp; try with_reducible rfl)
      (try simp only [Act.put, List.setIfInBounds_toArray, List.set_cons_zero, List.set_cons_succ])
      exact ih _ _ _ _ _ (by decide) ⟨true, false, 2, gx, gy, k1, k2, k3, s1, s4, S1, S4, by decide, rfl, rfl, by simp only [A7, pcT, pcF, h0, Act.put, List.setIfInBounds_toArray, List.set_cons_zero, List.set_cons_succ, Nat.reduceLeDiff, Nat.reduceAdd, Nat.reduceSub, decide_true, decide_false, Bool.and_true, Bool.and_false, Bool.true_and, Bool.false_and, Bool.toNat_true, Bool.toNat_false, Nat.le_refl, Nat.reduceMul], rfl, ⟨(HF.out.ma.ext hx9).more (by omega), (fun _ => ⟨HSX.out, hg9⟩), (fun h => Bool.noConfusion h), (fun _ h => Bool.noConfusion h), (fun _ => HF.out.f1 (by decide)), (fun _ => HF.out.f2 (by decide)), (fun h => absurd h (by decide)), (fun h => absurd h (by decide))⟩⟩
     ·simp only [List.getElem_toArray, List.getElem_cons_succ, List.getElem_cons_zero]; go_simp
      go_at_call 44
      refine (HF.out.ma.next (by omega) 6 6 rfl (by decide) (by decide)).mono ?_
      rintro e u9 ⟨k3, rfl, hk3, ha9, hm9⟩
      simp only []
      refine NextE.go2 (T' := (fun _ => True)) hK trivial (fun _ h9 => h9) ?_
      clear hK K
      (try simp only [Act.put, List.setIfInBounds_toArray, List.set_cons_zero, List.set_cons_succ])
      exact ih _ _ _ _ _ (by decide) ⟨false, false, 3, gx, gy, k1, k2, k3, s1, s4, S1, S4, by decide, rfl, rfl, by simp only [A7, pcT, pcF, h0, Act.put, List.setIfInBounds_toArray, List.set_cons_zero, List.set_cons_succ, Nat.reduceLeDiff, Nat.reduceAdd, Nat.reduceSub, decide_true, decide_false, Bool.and_true, Bool.and_false, Bool.true_and, Bool.false_and, Bool.toNat_true, Bool.toNat_false, Nat.le_refl, Nat.reduceMul], rfl, ⟨ha9.more (by omega), (fun h => Bool.noConfusion h), (fun h => Bool.noConfusion h), (fun h => Bool.noConfusion h), (fun _ => HF.out.f1 (by decide)), (fun _ => HF.out.f2 (by decide)), (fun _ => hk3), (fun h => absurd h (by decide))⟩⟩
     ·simp only [List.getElem_toArray, List.getElem_cons_succ, List.getElem_cons_zero]; go_simp
      have hx9 : Ext u (u.alloc (.cells #[.string ⟨#[]⟩, .int .i64 0, .string ⟨#[]⟩, .int .i64 0, .int .i64 0, .string ⟨#[]⟩, .slice none 0 0, .int .i64 0, .int .i64 0, .string ⟨#[]⟩, .slice none 0 0, .string ⟨#[]⟩, .string ⟨#[]⟩] 50)) := (Ext.refl _).alloc _
      have hr9 : RX (u.alloc (.cells #[.string ⟨#[]⟩, .int .i64 0, .string ⟨#[]⟩, .int .i64 0, .int .i64 0, .string ⟨#[]⟩, .slice none 0 0, .int .i64 0, .int .i64 0, .string ⟨#[]⟩, .slice none 0 0, .string ⟨#[]⟩, .string ⟨#[]⟩] 50)) u.heap.size rl0 := heap_alloc_new _ _
      have hg9 : u.heap.size ≠ b := by have := HF.out.ma.bb; have := HF.out.ma.mv.size; omega
      have hgV : V.heap.size ≤ u.heap.size := HF.out.ma.mv.size
      generalize u.alloc (.cells #[.string ⟨#[]⟩, .int .i64 0, .string ⟨#[]⟩, .int .i64 0, .int .i64 0, .string ⟨#[]⟩, .slice none 0 0, .int .i64 0, .int .i64 0, .string ⟨#[]⟩, .slice none 0 0, .string ⟨#[]⟩, .string ⟨#[]⟩] 50) = u9 at *
      generalize u.heap.size = gy at *
      refine NextE.go2 (T' := (fun _ => True)) hK trivial (fun _ h9 => h9) ?_
      clear hK K
      (try simp only [Act.put, List.setIfInBounds_toArray, List.set_cons_zero, List.set_cons_succ])
      exact ih _ _ _ _ _ (by decide) ⟨false, true, 2, gx, gy, k1, k2, k3, s1, s4, S1, S4, by decide, rfl, rfl, by simp only [A7, pcT, pcF, h0, Act.put, List.setIfInBounds_toArray, List.set_cons_zero, List.set_cons_succ, Nat.reduceLeDiff, Nat.reduceAdd, Nat.reduceSub, decide_true, decide_false, Bool.and_true, Bool.and_false, Bool.true_and, Bool.false_and, Bool.toNat_true, Bool.toNat_false, Nat.le_refl, Nat.reduceMul], rfl, ⟨(HF.out.ma.ext hx9).more (by omega), (fun h => Bool.noConfusion h), (fun _ => ⟨hr9, hg9, hgV⟩), (fun h => Bool.noConfusion h), (fun _ => HF.out.f1 (by decide)), (fun _ => HF.out.f2 (by decide)), (fun h => absurd h (by decide)), (fun h => absurd h (by decide))⟩⟩
    ·simp only [N7, L7, A7, pcT, pcF, T7t, T7f, h0, Act.put, List.setIfInBounds_toArray, List.set_cons_zero, List.set_cons_succ, Nat.reduceLeDiff, Nat.reduceAdd, Nat.reduceSub, decide_true, decide_false, Bool.and_true, Bool.and_false, Bool.true_and, Bool.false_and, Bool.toNat_true, Bool.toNat_false, Nat.le_refl, Nat.reduceMul]
     refine three (i := 0) (j := 9) (k := 12) (fun K hK => ?_) (fun K hK => ?_) (fun K hK => ?_)
     ·simp only [List.getElem_toArray, List.getElem_cons_zero]; go_simp
      have hx9 : Ext u (u.alloc (.cells #[.string ⟨#[114, 101, 112, 108, 121]⟩, .string ⟨#[120, 49]⟩, .string ⟨#[97, 98, 99, 100, 101, 102, 103, 104, 105, 106, 107, 57]⟩] 9)) := (Ext.refl _).alloc _
      have hs9 := SR.new u mkL #[.string ⟨#[114, 101, 112, 108, 121]⟩, .string ⟨#[120, 49]⟩, .string ⟨#[97, 98, 99, 100, 101, 102, 103, 104, 105, 106, 107, 57]⟩] rfl
      have hg9 : u.heap.size ≠ b := by have := HF.out.ma.bb; have := HF.out.ma.mv.size; omega
      generalize u.alloc (.cells #[.string ⟨#[114, 101, 112, 108, 121]⟩, .string ⟨#[120, 49]⟩, .string ⟨#[97, 98, 99, 100, 101, 102, 103, 104, 105, 106, 107, 57]⟩] 9) = u9 at *
      generalize u.heap.size = gx at *
      refine NextE.go2 (T' := fun X => SR X gx mkL) hK trivial (fun _ _ => trivial) ?_
      clear hK K
      (try simp only [Act.put, List.setIfInBounds_toArray, List.set_cons_zero, List.set_cons_succ])
      have HSX := Lib.hid hs9
      have G1 := Lib.hid (HF.out.f1 (by decide)).1
      have ES1 := Lib.hid (HF.out.f1 (by decide)).2
      have hk1I : (k1 : Int) < 3 := by have h9 := (List.getElem?_eq_some_iff.1 G1.out).1; simp only [mkL, List.length_cons, List.length_nil] at h9; omega
      refine tkA (i := 3) (d := some 22) (v := .pointer (some ⟨gx, k1, none⟩)) HSX.out ?_ ?_
      ·(intro w9 hT9; clear hT9; go_simp; try with_reducible rfl)
      (try simp only [Act.put, List.setIfInBounds_toArray, List.set_cons_zero, List.set_cons_succ])
      refine tkA (i := 4) (d := some 23) (v := .string S1) HSX.out ?_ ?_
      ·(intro w9 hT9; have q9 := hT9.at_ _ _ G1.out; rw [← ES1.out] at q9; go_simp; try with_reducible rfl)
      (try simp only [Act.put, List.setIfInBounds_toArray, List.set_cons_zero, List.set_cons_succ])
      exact ih _ _ _ _ _ (by decide) ⟨true, false, 3, gx, gy, k1, k2, k3, s1, s4, S1, S4, by decide, rfl, rfl, by simp only [A7, pcT, pcF, h0, Act.put, List.setIfInBounds_toArray, List.set_cons_zero, List.set_cons_succ, Nat.reduceLeDiff, Nat.reduceAdd, Nat.reduceSub, decide_true, decide_false, Bool.and_true, Bool.and_false, Bool.true_and, Bool.false_and, Bool.toNat_true, Bool.toNat_false, Nat.le_refl, Nat.reduceMul], rfl, ⟨(HF.out.ma.ext hx9).more (by omega), (fun _ => ⟨HSX.out, hg9⟩), (fun h => Bool.noConfusion h), (fun _ h => Bool.noConfusion h), (fun _ => HF.out.f1 (by decide)), (fun _ => HF.out.f2 (by decide)), (fun _ => HF.out.f3 (by decide)), (fun h => absurd h (by decide))⟩⟩
     ·simp only [List.getElem_toArray, List.getElem_cons_succ, List.getElem_cons_zero]; go_simp
      go_at_call 45
      refine (kind_any k3 (by have := HF.out.f3 (by decide); omega) _).mono ?_
      rintro e u9 ⟨s4, hs4, rfl, hx9⟩
      simp only []
      obtain ⟨S4, hS4⟩ : ∃ S, S = bs s4 := ⟨_, rfl⟩
      rw [← hS4]
      have ES4 := Lib.hid hS4
      have HM4 := Lib.hid hs4
      clear hS4 hs4
      refine NextE.go2 (T' := (fun _ => True)) hK trivial (fun _ h9 => h9) ?_
      clear hK K
      (try simp only [Act.put, List.setIfInBounds_toArray, List.set_cons_zero, List.set_cons_succ])
      exact ih _ _ _ _ _ (by decide) ⟨false, false, 4, gx, gy, k1, k2, k3, s1, s4, S1, S4, by decide, rfl, rfl, by simp only [A7, pcT, pcF, h0, Act.put, List.setIfInBounds_toArray, List.set_cons_zero, List.set_cons_succ, Nat.reduceLeDiff, Nat.reduceAdd, Nat.reduceSub, decide_true, decide_false, Bool.and_true, Bool.and_false, Bool.true_and, Bool.false_and, Bool.toNat_true, Bool.toNat_false, Nat.le_refl, Nat.reduceMul], rfl, ⟨(HF.out.ma.ext hx9).more (by omega), (fun h => Bool.noConfusion h), (fun h => Bool.noConfusion h), (fun h => Bool.noConfusion h), (fun _ => HF.out.f1 (by decide)), (fun _ => HF.out.f2 (by decide)), (fun _ => HF.out.f3 (by decide)), (fun _ => ⟨HM4.out, ES4.out⟩)⟩⟩
     ·simp only [List.getElem_toArray, List.getElem_cons_succ, List.getElem_cons_zero]; go_simp
      have hx9 : Ext u (u.alloc (.cells #[.string ⟨#[]⟩, .int .i64 0, .string ⟨#[]⟩, .int .i64 0, .int .i64 0, .string ⟨#[]⟩, .slice none 0 0, .int .i64 0, .int .i64 0, .string ⟨#[]⟩, .slice none 0 0, .string ⟨#[]⟩, .string ⟨#[]⟩] 50)) := (Ext.refl _).alloc _
      have hr9 : RX (u.alloc (.cells #[.string ⟨#[]⟩, .int .i64 0, .string ⟨#[]⟩, .int .i64 0, .int .i64 0, .string ⟨#[]⟩, .slice none 0 0, .int .i64 0, .int .i64 0, .string ⟨#[]⟩, .slice none 0 0, .string ⟨#[]⟩, .string ⟨#[]⟩] 50)) u.heap.size rl0 := heap_alloc_new _ _
      have hg9 : u.heap.size ≠ b := by have := HF.out.ma.bb; have := HF.out.ma.mv.size; omega
      have hgV : V.heap.size ≤ u.heap.size := HF.out.ma.mv.size
      generalize u.alloc (.cells #[.string ⟨#[]⟩, .int .i64 0, .string ⟨#[]⟩, .int .i64 0, .int .i64 0, .string ⟨#[]⟩, .slice none 0 0, .int .i64 0, .int .i64 0, .string ⟨#[]⟩, .slice none 0 0, .string ⟨#[]⟩, .string ⟨#[]⟩] 50) = u9 at *
      generalize u.heap.size = gy at *
      refine NextE.go2 (T' := (fun _ => True)) hK trivial (fun _ h9 => h9) ?_
      clear hK K
      (try simp only [Act.put, List.setIfInBounds_toArray, List.set_cons_zero, List.set_cons_succ])
      exact ih _ _ _ _ _ (by decide) ⟨false, true, 3, gx, gy, k1, k2, k3, s1, s4, S1, S4, by decide, rfl, rfl, by simp only [A7, pcT, pcF, h0, Act.put, List.setIfInBounds_toArray, List.set_cons_zero, List.set_cons_succ, Nat.reduceLeDiff, Nat.reduceAdd, Nat.reduceSub, decide_true, decide_false, Bool.and_true, Bool.and_false, Bool.true_and, Bool.false_and, Bool.toNat_true, Bool.toNat_false, Nat.le_refl, Nat.reduceMul], rfl, ⟨(HF.out.ma.ext hx9).more (by omega), (fun h => Bool.noConfusion h), (fun _ => ⟨hr9, hg9, hgV⟩), (fun h => Bool.noConfusion h), (fun _ => HF.out.f1 (by decide)), (fun _ => HF.out.f2 (by decide)), (fun _ => HF.out.f3 (by decide)), (fun h => absurd h (by decide))⟩⟩
    ·simp only [N7, L7, A7, pcT, pcF, T7t, T7f, h0, Act.put, List.setIfInBounds_toArray, List.set_cons_zero, List.set_cons_succ, Nat.reduceLeDiff, Nat.reduceAdd, Nat.reduceSub, decide_true, decide_false, Bool.and_true, Bool.and_false, Bool.true_and, Bool.false_and, Bool.toNat_true, Bool.toNat_false, Nat.le_refl, Nat.reduceMul]
     refine three (i := 0) (j := 10) (k := 12) (fun K hK => ?_) (fun K hK => ?_) (fun K hK => ?_)
     ·simp only [List.getElem_toArray, List.getElem_cons_zero]; go_simp
      have hx9 : Ext u (u.alloc (.cells #[.string ⟨#[114, 101, 112, 108, 121]⟩, .string ⟨#[120, 49]⟩, .string ⟨#[97, 98, 99, 100, 101, 102, 103, 104, 105, 106, 107, 57]⟩] 9)) := (Ext.refl _).alloc _
      have hs9 := SR.new u mkL #[.string ⟨#[114, 101, 112, 108, 121]⟩, .string ⟨#[120, 49]⟩, .string ⟨#[97, 98, 99, 100, 101, 102, 103, 104, 105, 106, 107, 57]⟩] rfl
      have hg9 : u.heap.size ≠ b := by have := HF.out.ma.bb; have := HF.out.ma.mv.size; omega
      generalize u.alloc (.cells #[.string ⟨#[114, 101, 112, 108, 121]⟩, .string ⟨#[120, 49]⟩, .string ⟨#[97, 98, 99, 100, 101, 102, 103, 104, 105, 106, 107, 57]⟩] 9) = u9 at *
      generalize u.heap.size = gx at *
      refine NextE.go2 (T' := fun X => SR X gx mkL) hK trivial (fun _ _ => trivial) ?_
      clear hK K
      (try simp only [Act.put, List.setIfInBounds_toArray, List.set_cons_zero, List.set_cons_succ])
      have HSX := Lib.hid hs9
      have G1 := Lib.hid (HF.out.f1 (by decide)).1
      have ES1 := Lib.hid (HF.out.f1 (by decide)).2
      have hk1I : (k1 : Int) < 3 := by have h9 := (List.getElem?_eq_some_iff.1 G1.out).1; simp only [mkL, List.length_cons, List.length_nil] at h9; omega
      refine tkA (i := 3) (d := some 22) (v := .pointer (some ⟨gx, k1, none⟩)) HSX.out ?_ ?_
      ·(intro w9 hT9; clear hT9; go_simp; try with_reducible rfl)
      (try simp only [Act.put, List.setIfInBounds_toArray, List.set_cons_zero, List.set_cons_succ])
      refine tkA (i := 4) (d := some 23) (v := .string S1) HSX.out ?_ ?_
      ·(intro w9 hT9; have q9 := hT9.at_ _ _ G1.out; rw [← ES1.out] at q9; go_simp; try with_reducible rfl)
      (try simp only [Act.put, List.setIfInBounds_toArray, List.set_cons_zero, List.set_cons_succ])
      exact ih _ _ _ _ _ (by decide) ⟨true, false, 4, gx, gy, k1, k2, k3, s1, s4, S1, S4, by decide, rfl, rfl, by simp only [A7, pcT, pcF, h0, Act.put, List.setIfInBounds_toArray, List.set_cons_zero, List.set_cons_succ, Nat.reduceLeDiff, Nat.reduceAdd, Nat.reduceSub, decide_true, decide_false, Bool.and_true, Bool.and_false, Bool.true_and, Bool.false_and, Bool.toNat_true, Bool.toNat_false, Nat.le_refl, Nat.reduceMul], rfl, ⟨(HF.out.ma.ext hx9).more (by omega), (fun _ => ⟨HSX.out, hg9⟩), (fun h => Bool.noConfusion h), (fun _ h => Bool.noConfusion h), (fun _ => HF.out.f1 (by decide)), (fun _ => HF.out.f2 (by decide)), (fun _ => HF.out.f3 (by decide)), (fun _ => HF.out.f4 (by decide))⟩⟩
     ·simp only [List.getElem_toArray, List.getElem_cons_succ, List.getElem_cons_zero]; go_simp
      go_at_call 31
      refine (ptrue_any _).mono ?_
      rintro e u9 ⟨rfl, hx9⟩
      simp only []
      refine NextE.go2 (T' := (fun _ => True)) hK trivial (fun _ h9 => h9) ?_
      clear hK K
      (try simp only [Act.put, List.setIfInBounds_toArray, List.set_cons_zero, List.set_cons_succ])
      exact ih _ _ _ _ _ (by decide) ⟨false, false, 5, gx, gy, k1, k2, k3, s1, s4, S1, S4, by decide, rfl, rfl, by simp only [A7, pcT, pcF, h0, Act.put, List.setIfInBounds_toArray, List.set_cons_zero, List.set_cons_succ, Nat.reduceLeDiff, Nat.reduceAdd, Nat.reduceSub, decide_true, decide_false, Bool.and_true, Bool.and_false, Bool.true_and, Bool.false_and, Bool.toNat_true, Bool.toNat_false, Nat.le_refl, Nat.reduceMul], rfl, ⟨(HF.out.ma.ext hx9).more (by omega), (fun h => Bool.noConfusion h), (fun h => Bool.noConfusion h), (fun h => Bool.noConfusion h), (fun _ => HF.out.f1 (by decide)), (fun _ => HF.out.f2 (by decide)), (fun _ => HF.out.f3 (by decide)), (fun _ => HF.out.f4 (by decide))⟩⟩
     ·simp only [List.getElem_toArray, List.getElem_cons_succ, List.getElem_cons_zero]; go_simp
      have hx9 : Ext u (u.alloc (.cells #[.string ⟨#[]⟩, .int .i64 0, .string ⟨#[]⟩, .int .i64 0, .int .i64 0, .string ⟨#[]⟩, .slice none 0 0, .int .i64 0, .int .i64 0, .string ⟨#[]⟩, .slice none 0 0, .string ⟨#[]⟩, .string ⟨#[]⟩] 50)) := (Ext.refl _).alloc _
      have hr9 : RX (u.alloc (.cells #[.string ⟨#[]⟩, .int .i64 0, .string ⟨#[]⟩, .int .i64 0, .int .i64 0, .string ⟨#[]⟩, .slice none 0 0, .int .i64 0, .int .i64 0, .string ⟨#[]⟩, .slice none 0 0, .string ⟨#[]⟩, .string ⟨#[]⟩] 50)) u.heap.size rl0 := heap_alloc_new _ _
      have hg9 : u.heap.size ≠ b := by have := HF.out.ma.bb; have := HF.out.ma.mv.size; omega
      have hgV : V.heap.size ≤ u.heap.size := HF.out.ma.mv.size
      generalize u.alloc (.cells #[.string ⟨#[]⟩, .int .i64 0, .string ⟨#[]⟩, .int .i64 0, .int .i64 0, .string ⟨#[]⟩, .slice none 0 0, .int .i64 0, .int .i64 0, .string ⟨#[]⟩, .slice none 0 0, .string ⟨#[]⟩, .string ⟨#[]⟩] 50) = u9 at *
      generalize u.heap.size = gy at *
      refine NextE.go2 (T' := (fun _ => True)) hK trivial (fun _ h9 => h9) ?_
      clear hK K
      (try simp only [Act.put, List.setIfInBounds_toArray, List.set_cons_zero, List.set_cons_succ])
      exact ih _ _ _ _ _ (by decide) ⟨false, true, 4, gx, gy, k1, k2, k3, s1, s4, S1, S4, by decide, rfl, rfl, by simp only [A7, pcT, pcF, h0, Act.put, List.setIfInBounds_toArray, List.set_cons_zero, List.set_cons_succ, Nat.reduceLeDiff, Nat.reduceAdd, Nat.reduceSub, decide_true, decide_false, Bool.and_true, Bool.and_false, Bool.true_and, Bool.false_and, Bool.toNat_true, Bool.toNat_false, Nat.le_refl, Nat.reduceMul], rfl, ⟨(HF.out.ma.ext hx9).more (by omega), (fun h => Bool.noConfusion h), (fun _ => ⟨hr9, hg9, hgV⟩), (fun h => Bool.noConfusion h), (fun _ => HF.out.f1 (by decide)), (fun _ => HF.out.f2 (by decide)), (fun _ => HF.out.f3 (by decide)), (fun _ => HF.out.f4 (by decide))⟩⟩
    ·simp only [N7, L7, A7, pcT, pcF, T7t, T7f, h0, Act.put, List.setIfInBounds_toArray, List.set_cons_zero, List.set_cons_succ, Nat.reduceLeDiff, Nat.reduceAdd, Nat.reduceSub, decide_true, decide_false, Bool.and_true, Bool.and_false, Bool.true_and, Bool.false_and, Bool.toNat_true, Bool.toNat_false, Nat.le_refl, Nat.reduceMul]
     refine two (i := 0) (j := 12) (fun K hK => ?_) (fun K hK => ?_)
     ·simp only [List.getElem_toArray, List.getElem_cons_zero]; go_simp
      have hx9 : Ext u (u.alloc (.cells #[.string ⟨#[114, 101, 112, 108, 121]⟩, .string ⟨#[120, 49]⟩, .string ⟨#[97, 98, 99, 100, 101, 102, 103, 104, 105, 106, 107, 57]⟩] 9)) := (Ext.refl _).alloc _
      have hs9 := SR.new u mkL #[.string ⟨#[114, 101, 112, 108, 121]⟩, .string ⟨#[120, 49]⟩, .string ⟨#[97, 98, 99, 100, 101, 102, 103, 104, 105, 106, 107, 57]⟩] rfl
      have hg9 : u.heap.size ≠ b := by have := HF.out.ma.bb; have := HF.out.ma.mv.size; omega
      generalize u.alloc (.cells #[.string ⟨#[114, 101, 112, 108, 121]⟩, .string ⟨#[120, 49]⟩, .string ⟨#[97, 98, 99, 100, 101, 102, 103, 104, 105, 106, 107, 57]⟩] 9) = u9 at *
      generalize u.heap.size = gx at *
      refine NextE.go2 (T' := fun X => SR X gx mkL) hK trivial (fun _ _ => trivial) ?_
      clear hK K
      (try simp only [Act.put, List.setIfInBounds_toArray, List.set_cons_zero, List.set_cons_succ])
      have HSX := Lib.hid hs9
      have G1 := Lib.hid (HF.out.f1 (by decide)).1
      have ES1 := Lib.hid (HF.out.f1 (by decide)).2
      have hk1I : (k1 : Int) < 3 := by have h9 := (List.getElem?_eq_some_iff.1 G1.out).1; simp only [mkL, List.length_cons, List.length_nil] at h9; omega
      refine tkA (i := 3) (d := some 22) (v := .pointer (some ⟨gx, k1, none⟩)) HSX.out ?_ ?_
      ·(intro w9 hT9; clear hT9; go_simp; try with_reducible rfl)
      (try simp only [Act.put, List.setIfInBounds_toArray, List.set_cons_zero, List.set_cons_succ])
      refine tkA (i := 4) (d := some 23) (v := .string S1) HSX.out ?_ ?_
      ·(intro w9 hT9; have q9 := hT9.at_ _ _ G1.out; rw [← ES1.out] at q9; go_simp; try with_reducible rfl)
      (try simp only [Act.put, List.setIfInBounds_toArray, List.set_cons_zero, List.set_cons_succ])
      refine tkA (i := 11) (d := some 30) (v := .agg #[.string S1, .int .i64 k2, .string S4, .int .i64 2, .int .i64 1, .string ⟨#[]⟩, .slice none 0 0, .int .i64 0, .int .i64 0, .string ⟨#[]⟩, .slice none 0 0, .string ⟨#[]⟩, .string ⟨#[]⟩]) HSX.out ?_ ?_
      ·(intro w9 hT9; clear hT9; go_simp; try with_reducible rfl)
      (try simp only [Act.put, List.setIfInBounds_toArray, List.set_cons_zero, List.set_cons_succ])
      exact ih _ _ _ _ _ (by decide) ⟨true, false, 5, gx, gy, k1, k2, k3, s1, s4, S1, S4, by decide, rfl, rfl, by simp only [A7, pcT, pcF, h0, Act.put, List.setIfInBounds_toArray, List.set_cons_zero, List.set_cons_succ, Nat.reduceLeDiff, Nat.reduceAdd, Nat.reduceSub, decide_true, decide_false, Bool.and_true, Bool.and_false, Bool.true_and, Bool.false_and, Bool.toNat_true, Bool.toNat_false, Nat.le_refl, Nat.reduceMul], rfl, ⟨(HF.out.ma.ext hx9).more (by omega), (fun _ => ⟨HSX.out, hg9⟩), (fun h => Bool.noConfusion h), (fun _ h => Bool.noConfusion h), (fun _ => HF.out.f1 (by decide)), (fun _ => HF.out.f2 (by decide)), (fun _ => HF.out.f3 (by decide)), (fun _ => HF.out.f4 (by decide))⟩⟩
     ·simp only [List.getElem_toArray, List.getElem_cons_succ, List.getElem_cons_zero]; go_simp
      have hx9 : Ext u (u.alloc (.cells #[.string ⟨#[]⟩, .int .i64 0, .string ⟨#[]⟩, .int .i64 0, .int .i64 0, .string ⟨#[]⟩, .slice none 0 0, .int .i64 0, .int .i64 0, .string ⟨#[]⟩, .slice none 0 0, .string ⟨#[]⟩, .string ⟨#[]⟩] 50)) := (Ext.refl _).alloc _
      have hr9 : RX (u.alloc (.cells #[.string ⟨#[]⟩, .int .i64 0, .string ⟨#[]⟩, .int .i64 0, .int .i64 0, .string ⟨#[]⟩, .slice none 0 0, .int .i64 0, .int .i64 0, .string ⟨#[]⟩, .slice none 0 0, .string ⟨#[]⟩, .string ⟨#[]⟩] 50)) u.heap.size rl0 := heap_alloc_new _ _
      have hg9 : u.heap.size ≠ b := by have := HF.out.ma.bb; have := HF.out.ma.mv.size; omega
      have hgV : V.heap.size ≤ u.heap.size := HF.out.ma.mv.size
      generalize u.alloc (.cells #[.string ⟨#[]⟩, .int .i64 0, .string ⟨#[]⟩, .int .i64 0, .int .i64 0, .string ⟨#[]⟩, .slice none 0 0, .int .i64 0, .int .i64 0, .string ⟨#[]⟩, .slice none 0 0, .string ⟨#[]⟩, .string ⟨#[]⟩] 50) = u9 at *
      generalize u.heap.size = gy at *
      refine NextE.go2 (T' := (fun _ => True)) hK trivial (fun _ h9 => h9) ?_
      clear hK K
      (try simp only [Act.put, List.setIfInBounds_toArray, List.set_cons_zero, List.set_cons_succ])
      exact ih _ _ _ _ _ (by decide) ⟨false, true, 5, gx, gy, k1, k2, k3, s1, s4, S1, S4, by decide, rfl, rfl, by simp only [A7, pcT, pcF, h0, Act.put, List.setIfInBounds_toArray, List.set_cons_zero, List.set_cons_succ, Nat.reduceLeDiff, Nat.reduceAdd, Nat.reduceSub, decide_true, decide_false, Bool.and_true, Bool.and_false, Bool.true_and, Bool.false_and, Bool.toNat_true, Bool.toNat_false, Nat.le_refl, Nat.reduceMul], rfl, ⟨(HF.out.ma.ext hx9).more (by omega), (fun h => Bool.noConfusion h), (fun _ => ⟨hr9, hg9, hgV⟩), (fun h => Bool.noConfusion h), (fun _ => HF.out.f1 (by decide)), (fun _ => HF.out.f2 (by decide)), (fun _ => HF.out.f3 (by decide)), (fun _ => HF.out.f4 (by decide))⟩⟩
   | true =>
    rcases hp with rfl | rfl | rfl | rfl | rfl | rfl
    ·simp only [N7, L7, A7, pcT, pcF, T7t, T7f, h0, Act.put, List.setIfInBounds_toArray, List.set_cons_zero, List.set_cons_succ, Nat.reduceLeDiff, Nat.reduceAdd, Nat.reduceSub, decide_true, decide_false, Bool.and_true, Bool.and_false, Bool.true_and, Bool.false_and, Bool.toNat_true, Bool.toNat_false, Nat.le_refl, Nat.reduceMul]
     refine two (i := 0) (j := 2) (fun K hK => ?_) (fun K hK => ?_)
     ·simp only [List.getElem_toArray, List.getElem_cons_zero]; go_simp
      have hx9 : Ext u (u.alloc (.cells #[.string ⟨#[114, 101, 112, 108, 121]⟩, .string ⟨#[120, 49]⟩, .string ⟨#[97, 98, 99, 100, 101, 102, 103, 104, 105, 106, 107, 57]⟩] 9)) := (Ext.refl _).alloc _
      have hs9 := SR.new u mkL #[.string ⟨#[114, 101, 112, 108, 121]⟩, .string ⟨#[120, 49]⟩, .string ⟨#[97, 98, 99, 100, 101, 102, 103, 104, 105, 106, 107, 57]⟩] rfl
      have hg9 : u.heap.size ≠ b := by have := HF.out.ma.bb; have := HF.out.ma.mv.size; omega
      have hxy : u.heap.size ≠ gy := by have := lt_of_block (HF.out.sy rfl).1; omega
      generalize u.alloc (.cells #[.string ⟨#[114, 101, 112, 108, 121]⟩, .string ⟨#[120, 49]⟩, .string ⟨#[97, 98, 99, 100, 101, 102, 103, 104, 105, 106, 107, 57]⟩] 9) = u9 at *
      generalize u.heap.size = gx at *
      refine NextE.go2 (T' := fun X => SR X gx mkL) hK trivial (fun _ _ => trivial) ?_
      clear hK K
      (try simp only [Act.put, List.setIfInBounds_toArray, List.set_cons_zero, List.set_cons_succ])
      have HSX := Lib.hid hs9
      exact ih _ _ _ _ _ (by decide) ⟨true, true, 0, gx, gy, k1, k2, k3, s1, s4, S1, S4, by decide, rfl, rfl, by simp only [A7, pcT, pcF, h0, Act.put, List.setIfInBounds_toArray, List.set_cons_zero, List.set_cons_succ, Nat.reduceLeDiff, Nat.reduceAdd, Nat.reduceSub, decide_true, decide_false, Bool.and_true, Bool.and_false, Bool.true_and, Bool.false_and, Bool.toNat_true, Bool.toNat_false, Nat.le_refl, Nat.reduceMul], rfl, ⟨(HF.out.ma.ext hx9).more (by omega), (fun _ => ⟨HSX.out, hg9⟩), (fun _ => ⟨(HF.out.sy rfl).1.mv (Mv.of_ext hx9) (HF.out.sy rfl).2.1, (HF.out.sy rfl).2⟩), (fun _ _ => hxy), (fun h => absurd h (by decide)), (fun h => absurd h (by decide)), (fun h => absurd h (by decide)), (fun h => absurd h (by decide))⟩⟩
     ·simp only [List.getElem_toArray, List.getElem_cons_succ, List.getElem_cons_zero]; go_simp
      go_at_call 44
      refine (HF.out.ma.next (by omega) 3 3 rfl (by decide) (by decide)).mono ?_
      rintro e u9 ⟨k1, rfl, hk1, ha9, hm9⟩
      simp only []
      have hk1I : (k1 : Int) < 3 := by omega
      obtain ⟨s1, hs1⟩ : ∃ s, mkL[k1]? = some s := ⟨_, List.getElem?_eq_getElem (by simpa [mkL] using hk1)⟩
      obtain ⟨S1, hS1⟩ : ∃ S, S = bs s1 := ⟨_, rfl⟩
      have G1 := Lib.hid hs1
      have ES1 := Lib.hid hS1
      clear hs1 hS1
      refine NextE.go2 (T' := (fun _ => True)) hK trivial (fun _ h9 => h9) ?_
      clear hK K
      (try simp only [Act.put, List.setIfInBounds_toArray, List.set_cons_zero, List.set_cons_succ])
      exact ih _ _ _ _ _ (by decide) ⟨false, true, 1, gx, gy, k1, k2, k3, s1, s4, S1, S4, by decide, rfl, rfl, by simp only [A7, pcT, pcF, h0, Act.put, List.setIfInBounds_toArray, List.set_cons_zero, List.set_cons_succ, Nat.reduceLeDiff, Nat.reduceAdd, Nat.reduceSub, decide_true, decide_false, Bool.and_true, Bool.and_false, Bool.true_and, Bool.false_and, Bool.toNat_true, Bool.toNat_false, Nat.le_refl, Nat.reduceMul], rfl, ⟨ha9.more (by omega), (fun h => Bool.noConfusion h), (fun _ => ⟨(HF.out.sy rfl).1.mv hm9 (HF.out.sy rfl).2.1, (HF.out.sy rfl).2⟩), (fun h => Bool.noConfusion h), (fun _ => ⟨G1.out, ES1.out⟩), (fun h => absurd h (by decide)), (fun h => absurd h (by decide)), (fun h => absurd h (by decide))⟩⟩
    ·simp only [N7, L7, A7, pcT, pcF, T7t, T7f, h0, Act.put, List.setIfInBounds_toArray, List.set_cons_zero, List.set_cons_succ, Nat.reduceLeDiff, Nat.reduceAdd, Nat.reduceSub, decide_true, decide_false, Bool.and_true, Bool.and_false, Bool.true_and, Bool.false_and, Bool.toNat_true, Bool.toNat_false, Nat.le_refl, Nat.reduceMul]
     refine two (i := 0) (j := 6) (fun K hK => ?_) (fun K hK => ?_)
     ·simp only [List.getElem_toArray, List.getElem_cons_zero]; go_simp
      have hx9 : Ext u (u.alloc (.cells #[.string ⟨#[114, 101, 112, 108, 121]⟩, .string ⟨#[120, 49]⟩, .string ⟨#[97, 98, 99, 100, 101, 102, 103, 104, 105, 106, 107, 57]⟩] 9)) := (Ext.refl _).alloc _
      have hs9 := SR.new u mkL #[.string ⟨#[114, 101, 112, 108, 121]⟩, .string ⟨#[120, 49]⟩, .string ⟨#[97, 98, 99, 100, 101, 102, 103, 104, 105, 106, 107, 57]⟩] rfl
      have hg9 : u.heap.size ≠ b := by have := HF.out.ma.bb; have := HF.out.ma.mv.size; omega
      have hxy : u.heap.size ≠ gy := by have := lt_of_block (HF.out.sy rfl).1; omega
      generalize u.alloc (.cells #[.string ⟨#[114, 101, 112, 108, 121]⟩, .string ⟨#[120, 49]⟩, .string ⟨#[97, 98, 99, 100, 101, 102, 103, 104, 105, 106, 107, 57]⟩] 9) = u9 at *
      generalize u.heap.size = gx at *
      refine NextE.go2 (T' := fun X => SR X gx mkL) hK trivial (fun _ _ => trivial) ?_
      clear hK K
      (try simp only [Act.put, List.setIfInBounds_toArray, List.set_cons_zero, List.set_cons_succ])
      have HSX := Lib.hid hs9
      have G1 := Lib.hid (HF.out.f1 (by decide)).1
      have ES1 := Lib.hid (HF.out.f1 (by decide)).2
      have hk1I : (k1 : Int) < 3 := by have h9 := (List.getElem?_eq_some_iff.1 G1.out).1; simp only [mkL, List.length_cons, List.length_nil] at h9; omega
      refine tkA (i := 3) (d := some 22) (v := .pointer (some ⟨gx, k1, none⟩)) HSX.out ?_ ?_
      ·(intro w9 hT9; clear hT9; go_simp; try with_reducible rfl)
      (try simp only [Act.put, List.setIfInBounds_toArray, List.set_cons_zero, List.set_cons_succ])
      refine tkA (i := 4) (d := some 23) (v := .string S1) HSX.out ?_ ?_
      ·(intro w9 hT9; have q9 := hT9.at_ _ _ G1.out; rw [← ES1.out] at q9; go_simp; try with_reducible rfl)
      (try simp only [Act.put, List.setIfInBounds_toArray, List.set_cons_zero, List.set_cons_succ])
      exact ih _ _ _ _ _ (by decide) ⟨true, true, 1, gx, gy, k1, k2, k3, s1, s4, S1, S4, by decide, rfl, rfl, by simp only [A7, pcT, pcF, h0, Act.put, List.setIfInBounds_toArray, List.set_cons_zero, List.set_cons_succ, Nat.reduceLeDiff, Nat.reduceAdd, Nat.reduceSub, decide_true, decide_false, Bool.and_true, Bool.and_false, Bool.true_and, Bool.false_and, Bool.toNat_true, Bool.toNat_false, Nat.le_refl, Nat.reduceMul], rfl, ⟨(HF.out.ma.ext hx9).more (by omega), (fun _ => ⟨HSX.out, hg9⟩), (fun _ => ⟨(HF.out.sy rfl).1.mv (Mv.of_ext hx9) (HF.out.sy rfl).2.1, (HF.out.sy rfl).2⟩), (fun _ _ => hxy), (fun _ => HF.out.f1 (by decide)), (fun h => absurd h (by decide)), (fun h => absurd h (by decide)), (fun h => absurd h (by decide))⟩⟩
     ·simp only [List.getElem_toArray, List.getElem_cons_succ, List.getElem_cons_zero]; go_simp
      go_at_call 44
      refine (HF.out.ma.next (by omega) 3652059 3652059 rfl (by decide) (by decide)).mono ?_
      rintro e u9 ⟨k2, rfl, hk2, ha9, hm9⟩
      simp only []
      refine NextE.go2 (T' := (fun _ => True)) hK trivial (fun _ h9 => h9) ?_
      clear hK K
      (try simp only [Act.put, List.setIfInBounds_toArray, List.set_cons_zero, List.set_cons_succ])
      exact ih _ _ _ _ _ (by decide) ⟨false, true, 2, gx, gy, k1, k2, k3, s1, s4, S1, S4, by decide, rfl, rfl, by simp only [A7, pcT, pcF, h0, Act.put, List.setIfInBounds_toArray, List.set_cons_zero, List.set_cons_succ, Nat.reduceLeDiff, Nat.reduceAdd, Nat.reduceSub, decide_true, decide_false, Bool.and_true, Bool.and_false, Bool.true_and, Bool.false_and, Bool.toNat_true, Bool.toNat_false, Nat.le_refl, Nat.reduceMul], rfl, ⟨ha9.more (by omega), (fun h => Bool.noConfusion h), (fun _ => ⟨(HF.out.sy rfl).1.mv hm9 (HF.out.sy rfl).2.1, (HF.out.sy rfl).2⟩), (fun h => Bool.noConfusion h), (fun _ => HF.out.f1 (by decide)), (fun _ => hk2), (fun h => absurd h (by decide)), (fun h => absurd h (by decide))⟩⟩
    ·simp only [N7, L7, A7, pcT, pcF, T7t, T7f, h0, Act.put, List.setIfInBounds_toArray, List.set_cons_zero, List.set_cons_succ, Nat.reduceLeDiff, Nat.reduceAdd, Nat.reduceSub, decide_true, decide_false, Bool.and_true, Bool.and_false, Bool.true_and, Bool.false_and, Bool.toNat_true, Bool.toNat_false, Nat.le_refl, Nat.reduceMul]
     refine two (i := 0) (j := 8) (fun K hK => ?_) (fun K hK => ?_)
     ·simp only [List.getElem_toArray, List.getElem_cons_zero]; go_simp
      have hx9 : Ext u (u.alloc (.cells #[.string ⟨#[114, 101, 112, 108, 121]⟩, .string ⟨#[120, 49]⟩, .string ⟨#[97, 98, 99, 100, 101, 102, 103, 104, 105, 106, 107, 57]⟩] 9)) := (Ext.refl _).alloc _
      have hs9 := SR.new u mkL #[.string ⟨#[114, 101, 112, 108, 121]⟩, .string ⟨#[120, 49]⟩, .string ⟨#[97, 98, 99, 100, 101, 102, 103, 104, 105, 106, 107, 57]⟩] rfl
      have hg9 : u.heap.size ≠ b := by have := HF.out.ma.bb; have := HF.out.ma.mv.size; omega
      have hxy : u.heap.size ≠ gy := by have := lt_of_block (HF.out.sy rfl).1; omega
      generalize u.alloc (.cells #[.string ⟨#[114, 101, 112, 108, 121]⟩, .string ⟨#[120, 49]⟩, .string ⟨#[97, 98, 99, 100, 101, 102, 103, 104, 105, 106, 107, 57]⟩] 9) = u9 at *
      generalize u.heap.size = gx at *
      refine NextE.go2 (T' := fun X => SR X gx mkL) hK trivial (fun _ _ => trivial) ?_
      clear hK K
      (try simp only [Act.put, List.setIfInBounds_toArray, List.set_cons_zero, List.set_cons_succ])
      have HSX := Lib.hid hs9
      have G1 := Lib.hid (HF.out.f1 (by decide)).1
      have ES1 := Lib.hid (HF.out.f1 (by decide)).2
      have hk1I : (k1 : Int) < 3 := by have h9 := (List.getElem?_eq_some_iff.1 G1.out).1; simp only [mkL, List.length_cons, List.length_nil] at h9; omega
      refine tkA (i := 3) (d := some 22) (v := .pointer (some ⟨gx, k1, none⟩)) HSX.out ?_ ?_
      ·(intro w9 hT9; clear hT9; go_simp; try with_reducible rfl)
      (try simp only [Act.put, List.setIfInBounds_toArray, List.set_cons_zero, List.set_cons_succ])
      refine tkA (i := 4) (d := some 23) (v := .string S1) HSX.out ?_ ?_
      ·(intro w9 hT9; have q9 := hT9.at_ _ _ G1.out; rw [← ES1.out] at q9; go_simp; try with_reducible rfl)
      (try simp only [Act.put, List.setIfInBounds_toArray, List.set_cons_zero, List.set_cons_succ])
      exact ih _ _ _ _ _ (by decide) ⟨true, true, 2, gx, gy, k1, k2, k3, s1, s4, S1, S4, by decide, rfl, rfl, by simp only [A7, pcT, pcF, h0, Act.put, List.setIfInBounds_toArray, List.set_cons_zero, List.set_cons_succ, Nat.reduceLeDiff, Nat.reduceAdd, Nat.reduceSub, decide_true, decide_false, Bool.and_true, Bool.and_false, Bool.true_and, Bool.false_and, Bool.toNat_true, Bool.toNat_false, Nat.le_refl, Nat.reduceMul], rfl, ⟨(HF.out.ma.ext hx9).more (by omega), (fun _ => ⟨HSX.out, hg9⟩), (fun _ => ⟨(HF.out.sy rfl).1.mv (Mv.of_ext hx9) (HF.out.sy rfl).2.1, (HF.out.sy rfl).2⟩), (fun _ _ => hxy), (fun _ => HF.out.f1 (by decide)), (fun _ => HF.out.f2 (by decide)), (fun h => absurd h (by decide)), (fun h => absurd h (by decide))⟩⟩
     ·simp only [List.getElem_toArray, List.getElem_cons_succ, List.getElem_cons_zero]; go_simp
      go_at_call 44
      refine (HF.out.ma.next (by omega) 6 6 rfl (by decide) (by decide)).mono ?_
      rintro e u9 ⟨k3, rfl, hk3, ha9, hm9⟩
      simp only []
      refine NextE.go2 (T' := (fun _ => True)) hK trivial (fun _ h9 => h9) ?_
      clear hK K
      (try simp only [Act.put, List.setIfInBounds_toArray, List.set_cons_zero, List.set_cons_succ])
      exact ih _ _ _ _ _ (by decide) ⟨false, true, 3, gx, gy, k1, k2, k3, s1, s4, S1, S4, by decide, rfl, rfl, by simp only [A7, pcT, pcF, h0, Act.put, List.setIfInBounds_toArray, List.set_cons_zero, List.set_cons_succ, Nat.reduceLeDiff, Nat.reduceAdd, Nat.reduceSub, decide_true, decide_false, Bool.and_true, Bool.and_false, Bool.true_and, Bool.false_and, Bool.toNat_true, Bool.toNat_false, Nat.le_refl, Nat.reduceMul], rfl, ⟨ha9.more (by omega), (fun h => Bool.noConfusion h), (fun _ => ⟨(HF.out.sy rfl).1.mv hm9 (HF.out.sy rfl).2.1, (HF.out.sy rfl).2⟩), (fun h => Bool.noConfusion h), (fun _ => HF.out.f1 (by decide)), (fun _ => HF.out.f2 (by decide)), (fun _ => hk3), (fun h => absurd h (by decide))⟩⟩
    ·simp only [N7, L7, A7, pcT, pcF, T7t, T7f, h0, Act.put, List.setIfInBounds_toArray, List.set_cons_zero, List.set_cons_succ, Nat.reduceLeDiff, Nat.reduceAdd, Nat.reduceSub, decide_true, decide_false, Bool.and_true, Bool.and_false, Bool.true_and, Bool.false_and, Bool.toNat_true, Bool.toNat_false, Nat.le_refl, Nat.reduceMul]
     refine two (i := 0) (j := 9) (fun K hK => ?_) (fun K hK => ?_)
     ·simp only [List.getElem_toArray, List.getElem_cons_zero]; go_simp
      have hx9 : Ext u (u.alloc (.cells #[.string ⟨#[114, 101, 112, 108, 121]⟩, .string ⟨#[120, 49]⟩, .string ⟨#[97, 98, 99, 100, 101, 102, 103, 104, 105, 106, 107, 57]⟩] 9)) := (Ext.refl _).alloc _
      have hs9 := SR.new u mkL #[.string ⟨#[114, 101, 112, 108, 121]⟩, .string ⟨#[120, 49]⟩, .string ⟨#[97, 98, 99, 100, 101, 102, 103, 104, 105, 106, 107, 57]⟩] rfl
      have hg9 : u.heap.size ≠ b := by have := HF.out.ma.bb; have := HF.out.ma.mv.size; omega
      have hxy : u.heap.size ≠ gy := by have := lt_of_block (HF.out.sy rfl).1; omega
      generalize u.alloc (.cells #[.string ⟨#[114, 101, 112, 108, 121]⟩, .string ⟨#[120, 49]⟩, .string ⟨#[97, 98, 99, 100, 101, 102, 103, 104, 105, 106, 107, 57]⟩] 9) = u9 at *
      generalize u.heap.size = gx at *
      refine NextE.go2 (T' := fun X => SR X gx mkL) hK trivial (fun _ _ => trivial) ?_
      clear hK K
      (try simp only [Act.put, List.setIfInBounds_toArray, List.set_cons_zero, List.set_cons_succ])
      have HSX := Lib.hid hs9
      have G1 := Lib.hid (HF.out.f1 (by decide)).1
      have ES1 := Lib.hid (HF.out.f1 (by decide)).2
      have hk1I : (k1 : Int) < 3 := by have h9 := (List.getElem?_eq_some_iff.1 G1.out).1; simp only [mkL, List.length_cons, List.length_nil] at h9; omega
      refine tkA (i := 3) (d := some 22) (v := .pointer (some ⟨gx, k1, none⟩)) HSX.out ?_ ?_
      ·(intro w9 hT9; clear hT9; go_simp; try with_reducible rfl)
      (try simp only [Act.put, List.setIfInBounds_toArray, List.set_cons_zero, List.set_cons_succ])
      refine tkA (i := 4) (d := some 23) (v := .string S1) HSX.out ?_ ?_
      ·(intro w9 hT9; have q9 := hT9.at_ _ _ G1.out; rw [← ES1.out] at q9; go_simp; try with_reducible rfl)
      (try simp only [Act.put, List.setIfInBounds_toArray, List.set_cons_zero, List.set_cons_succ])
      exact ih _ _ _ _ _ (by decide) ⟨true, true, 3, gx, gy, k1, k2, k3, s1, s4, S1, S4, by decide, rfl, rfl, by simp only [A7, pcT, pcF, h0, Act.put, List.setIfInBounds_toArray, List.set_cons_zero, List.set_cons_succ, Nat.reduceLeDiff, Nat.reduceAdd, Nat.reduceSub, decide_true, decide_false, Bool.and_true, Bool.and_false, Bool.true_and, Bool.false_and, Bool.toNat_true, Bool.toNat_false, Nat.le_refl, Nat.reduceMul], rfl, ⟨(HF.out.ma.ext hx9).more (by omega), (fun _ => ⟨HSX.out, hg9⟩), (fun _ => ⟨(HF.out.sy rfl).1.mv (Mv.of_ext hx9) (HF.out.sy rfl).2.1, (HF.out.sy rfl).2⟩), (fun _ _ => hxy), (fun _ => HF.out.f1 (by decide)), (fun _ => HF.out.f2 (by decide)), (fun _ => HF.out.f3 (by decide)), (fun h => absurd h (by decide))⟩⟩
     ·simp only [List.getElem_toArray, List.getElem_cons_succ, List.getElem_cons_zero]; go_simp
      go_at_call 45
      refine (kind_any k3 (by have := HF.out.f3 (by decide); omega) _).mono ?_
      rintro e u9 ⟨s4, hs4, rfl, hx9⟩
      simp only []
      obtain ⟨S4, hS4⟩ : ∃ S, S = bs s4 := ⟨_, rfl⟩
      rw [← hS4]
      have ES4 := Lib.hid hS4
      have HM4 := Lib.hid hs4
      clear hS4 hs4
      refine NextE.go2 (T' := (fun _ => True)) hK trivial (fun _ h9 => h9) ?_
      clear hK K
      (try simp only [Act.put, List.setIfInBounds_toArray, List.set_cons_zero, List.set_cons_succ])
      exact ih _ _ _ _ _ (by decide) ⟨false, true, 4, gx, gy, k1, k2, k3, s1, s4, S1, S4, by decide, rfl, rfl, by simp only [A7, pcT, pcF, h0, Act.put, List.setIfInBounds_toArray, List.set_cons_zero, List.set_cons_succ, Nat.reduceLeDiff, Nat.reduceAdd, Nat.reduceSub, decide_true, decide_false, Bool.and_true, Bool.and_false, Bool.true_and, Bool.false_and, Bool.toNat_true, Bool.toNat_false, Nat.le_refl, Nat.reduceMul], rfl, ⟨(HF.out.ma.ext hx9).more (by omega), (fun h => Bool.noConfusion h), (fun _ => ⟨(HF.out.sy rfl).1.mv (Mv.of_ext hx9) (HF.out.sy rfl).2.1, (HF.out.sy rfl).2⟩), (fun h => Bool.noConfusion h), (fun _ => HF.out.f1 (by decide)), (fun _ => HF.out.f2 (by decide)), (fun _ => HF.out.f3 (by decide)), (fun _ => ⟨HM4.out, ES4.out⟩)⟩⟩
    ·simp only [N7, L7, A7, pcT, pcF, T7t, T7f, h0, Act.put, List.setIfInBounds_toArray, List.set_cons_zero, List.set_cons_succ, Nat.reduceLeDiff, Nat.reduceAdd, Nat.reduceSub, decide_true, decide_false, Bool.and_true, Bool.and_false, Bool.true_and, Bool.false_and, Bool.toNat_true, Bool.toNat_false, Nat.le_refl, Nat.reduceMul]
     refine two (i := 0) (j := 10) (fun K hK => ?_) (fun K hK => ?_)
     ·simp only [List.getElem_toArray, List.getElem_cons_zero]; go_simp
      have hx9 : Ext u (u.alloc (.cells #[.string ⟨#[114, 101, 112, 108, 121]⟩, .string ⟨#[120, 49]⟩, .string ⟨#[97, 98, 99, 100, 101, 102, 103, 104, 105, 106, 107, 57]⟩] 9)) := (Ext.refl _).alloc _
      have hs9 := SR.new u mkL #[.string ⟨#[114, 101, 112, 108, 121]⟩, .string ⟨#[120, 49]⟩, .string ⟨#[97, 98, 99, 100, 101, 102, 103, 104, 105, 106, 107, 57]⟩] rfl
      have hg9 : u.heap.size ≠ b := by have := HF.out.ma.bb; have := HF.out.ma.mv.size; omega
      have hxy : u.heap.size ≠ gy := by have := lt_of_block (HF.out.sy rfl).1; omega
      generalize u.alloc (.cells #[.string ⟨#[114, 101, 112, 108, 121]⟩, .string ⟨#[120, 49]⟩, .string ⟨#[97, 98, 99, 100, 101, 102, 103, 104, 105, 106, 107, 57]⟩] 9) = u9 at *
      generalize u.heap.size = gx at *
      refine NextE.go2 (T' := fun X => SR X gx mkL) hK trivial (fun _ _ => trivial) ?_
      clear hK K
      (try simp only [Act.put, List.setIfInBounds_toArray, List.set_cons_zero, List.set_cons_succ])
      have HSX := Lib.hid hs9
      have G1 := Lib.hid (HF.out.f1 (by decide)).1
      have ES1 := Lib.hid (HF.out.f1 (by decide)).2
      have hk1I : (k1 : Int) < 3 := by have h9 := (List.getElem?_eq_some_iff.1 G1.out).1; simp only [mkL, List.length_cons, List.length_nil] at h9; omega
      refine tkA (i := 3) (d := some 22) (v := .pointer (some ⟨gx, k1, none⟩)) HSX.out ?_ ?_
      ·(intro w9 hT9; clear hT9; go_simp; try with_reducible rfl)
      (try simp only [Act.put, List.setIfInBounds_toArray, List.set_cons_zero, List.set_cons_succ])
      refine tkA (i := 4) (d := some 23) (v := .string S1) HSX.out ?_ ?_
      ·(intro w9 hT9; have q9 := hT9.at_ _ _ G1.out; rw [← ES1.out] at q9; go_simp; try with_reducible rfl)
      (try simp only [Act.put, List.setIfInBounds_toArray, List.set_cons_zero, List.set_cons_succ])
      exact ih _ _ _ _ _ (by decide) ⟨true, true, 4, gx, gy, k1, k2, k3, s1, s4, S1, S4, by decide, rfl, rfl, by simp only [A7, pcT, pcF, h0, Act.put, List.setIfInBounds_toArray, List.set_cons_zero, List.set_cons_succ, Nat.reduceLeDiff, Nat.reduceAdd, Nat.reduceSub, decide_true, decide_false, Bool.and_true, Bool.and_false, Bool.true_and, Bool.false_and, Bool.toNat_true, Bool.toNat_false, Nat.le_refl, Nat.reduceMul], rfl, ⟨(HF.out.ma.ext hx9).more (by omega), (fun _ => ⟨HSX.out, hg9⟩), (fun _ => ⟨(HF.out.sy rfl).1.mv (Mv.of_ext hx9) (HF.out.sy rfl).2.1, (HF.out.sy rfl).2⟩), (fun _ _ => hxy), (fun _ => HF.out.f1 (by decide)), (fun _ => HF.out.f2 (by decide)), (fun _ => HF.out.f3 (by decide)), (fun _ => HF.out.f4 (by decide))⟩⟩
     ·simp only [List.getElem_toArray, List.getElem_cons_succ, List.getElem_cons_zero]; go_simp
      go_at_call 31
      refine (ptrue_any _).mono ?_
      rintro e u9 ⟨rfl, hx9⟩
      simp only []
      refine NextE.go2 (T' := (fun _ => True)) hK trivial (fun _ h9 => h9) ?_
      clear hK K
      (try simp only [Act.put, List.setIfInBounds_toArray, List.set_cons_zero, List.set_cons_succ])
      exact ih _ _ _ _ _ (by decide) ⟨false, true, 5, gx, gy, k1, k2, k3, s1, s4, S1, S4, by decide, rfl, rfl, by simp only [A7, pcT, pcF, h0, Act.put, List.setIfInBounds_toArray, List.set_cons_zero, List.set_cons_succ, Nat.reduceLeDiff, Nat.reduceAdd, Nat.reduceSub, decide_true, decide_false, Bool.and_true, Bool.and_false, Bool.true_and, Bool.false_and, Bool.toNat_true, Bool.toNat_false, Nat.le_refl, Nat.reduceMul], rfl, ⟨(HF.out.ma.ext hx9).more (by omega), (fun h => Bool.noConfusion h), (fun _ => ⟨(HF.out.sy rfl).1.mv (Mv.of_ext hx9) (HF.out.sy rfl).2.1, (HF.out.sy rfl).2⟩), (fun h => Bool.noConfusion h), (fun _ => HF.out.f1 (by decide)), (fun _ => HF.out.f2 (by decide)), (fun _ => HF.out.f3 (by decide)), (fun _ => HF.out.f4 (by decide))⟩⟩
    ·simp only [N7, L7, A7, pcT, pcF, T7t, T7f, h0, Act.put, List.setIfInBounds_toArray, List.set_cons_zero, List.set_cons_succ, Nat.reduceLeDiff, Nat.reduceAdd, Nat.reduceSub, decide_true, decide_false, Bool.and_true, Bool.and_false, Bool.true_and, Bool.false_and, Bool.toNat_true, Bool.toNat_false, Nat.le_refl, Nat.reduceMul]
     refine one (i := 0) (fun K hK => ?_)
     ·simp only [List.getElem_toArray, List.getElem_cons_zero]; go_simp
      have hx9 : Ext u (u.alloc (.cells #[.string ⟨#[114, 101, 112, 108, 121]⟩, .string ⟨#[120, 49]⟩, .string ⟨#[97, 98, 99, 100, 101, 102, 103, 104, 105, 106, 107, 57]⟩] 9)) := (Ext.refl _).alloc _
      have hs9 := SR.new u mkL #[.string ⟨#[114, 101, 112, 108, 121]⟩, .string ⟨#[120, 49]⟩, .string ⟨#[97, 98, 99, 100, 101, 102, 103, 104, 105, 106, 107, 57]⟩] rfl
      have hg9 : u.heap.size ≠ b := by have := HF.out.ma.bb; have := HF.out.ma.mv.size; omega
      have hxy : u.heap.size ≠ gy := by have := lt_of_block (HF.out.sy rfl).1; omega
      generalize u.alloc (.cells #[.string ⟨#[114, 101, 112, 108, 121]⟩, .string ⟨#[120, 49]⟩, .string ⟨#[97, 98, 99, 100, 101, 102, 103, 104, 105, 106, 107, 57]⟩] 9) = u9 at *
      generalize u.heap.size = gx at *
      refine NextE.go2 (T' := fun X => SR X gx mkL) hK trivial (fun _ _ => trivial) ?_
      clear hK K
      (try simp only [Act.put, List.setIfInBounds_toArray, List.set_cons_zero, List.set_cons_succ])
      have HSX := Lib.hid hs9
      have G1 := Lib.hid (HF.out.f1 (by decide)).1
      have ES1 := Lib.hid (HF.out.f1 (by decide)).2
      have hk1I : (k1 : Int) < 3 := by have h9 := (List.getElem?_eq_some_iff.1 G1.out).1; simp only [mkL, List.length_cons, List.length_nil] at h9; omega
      refine tkA (i := 3) (d := some 22) (v := .pointer (some ⟨gx, k1, none⟩)) HSX.out ?_ ?_
      ·(intro w9 hT9; clear hT9; go_simp; try with_reducible rfl)
      (try simp only [Act.put, List.setIfInBounds_toArray, List.set_cons_zero, List.set_cons_succ])
      refine tkA (i := 4) (d := some 23) (v := .string S1) HSX.out ?_ ?_
      ·(intro w9 hT9; have q9 := hT9.at_ _ _ G1.out; rw [← ES1.out] at q9; go_simp; try with_reducible rfl)
      (try simp only [Act.put, List.setIfInBounds_toArray, List.set_cons_zero, List.set_cons_succ])
      refine tkA (i := 11) (d := some 30) (v := .agg #[.string S1, .int .i64 k2, .string S4, .int .i64 2, .int .i64 1, .string ⟨#[]⟩, .slice none 0 0, .int .i64 0, .int .i64 0, .string ⟨#[]⟩, .slice none 0 0, .string ⟨#[]⟩, .string ⟨#[]⟩]) HSX.out ?_ ?_
      ·(intro w9 hT9; clear hT9; go_simp; try with_reducible rfl)
      (try simp only [Act.put, List.setIfInBounds_toArray, List.set_cons_zero, List.set_cons_succ])
      exact ih _ _ _ _ _ (by decide) ⟨true, true, 5, gx, gy, k1, k2, k3, s1, s4, S1, S4, by decide, rfl, rfl, by simp only [A7, pcT, pcF, h0, Act.put, List.setIfInBounds_toArray, List.set_cons_zero, List.set_cons_succ, Nat.reduceLeDiff, Nat.reduceAdd, Nat.reduceSub, decide_true, decide_false, Bool.and_true, Bool.and_false, Bool.true_and, Bool.false_and, Bool.toNat_true, Bool.toNat_false, Nat.le_refl, Nat.reduceMul], rfl, ⟨(HF.out.ma.ext hx9).more (by omega), (fun _ => ⟨HSX.out, hg9⟩), (fun _ => ⟨(HF.out.sy rfl).1.mv (Mv.of_ext hx9) (HF.out.sy rfl).2.1, (HF.out.sy rfl).2⟩), (fun _ _ => hxy), (fun _ => HF.out.f1 (by decide)), (fun _ => HF.out.f2 (by decide)), (fun _ => HF.out.f3 (by decide)), (fun _ => HF.out.f4 (by decide))⟩⟩
  ·cases y with
   | false =>
    rcases hp with rfl | rfl | rfl | rfl | rfl | rfl
    ·simp only [N7, L7, A7, pcT, pcF, T7t, T7f, h0, Act.put, List.setIfInBounds_toArray, List.set_cons_zero, List.set_cons_succ, Nat.reduceLeDiff, Nat.reduceAdd, Nat.reduceSub, decide_true, decide_false, Bool.and_true, Bool.and_false, Bool.true_and, Bool.false_and, Bool.toNat_true, Bool.toNat_false, Nat.le_refl, Nat.reduceMul]
     refine two (i := 2) (j := 12) (fun K hK => ?_) (fun K hK => ?_)
     ·simp only [List.getElem_toArray, List.getElem_cons_succ, List.getElem_cons_zero]; go_simp
      go_at_call 44
      refine (HF.out.ma.next (by omega) 3 3 rfl (by decide) (by decide)).mono ?_
      rintro e u9 ⟨k1, rfl, hk1, ha9, hm9⟩
      simp only []
      have hk1I : (k1 : Int) < 3 := by omega
      obtain ⟨s1, hs1⟩ : ∃ s, mkL[k1]? = some s := ⟨_, List.getElem?_eq_getElem (by simpa [mkL] using hk1)⟩
      obtain ⟨S1, hS1⟩ : ∃ S, S = bs s1 := ⟨_, rfl⟩
      have G1 := Lib.hid hs1
      have ES1 := Lib.hid hS1
      clear hs1 hS1
      refine NextE.go2 (T' := (fun X => SR X gx mkL)) hK ((HF.out.sx rfl).1.mv hm9 (HF.out.sx rfl).2) (fun _ h9 => h9) ?_
      clear hK K
      (try simp only [Act.put, List.setIfInBounds_toArray, List.set_cons_zero, List.set_cons_succ])
      have HSX := Lib.hid ((HF.out.sx rfl).1.mv hm9 (HF.out.sx rfl).2)
      refine tkA (i := 3) (d := some 22) (v := .pointer (some ⟨gx, k1, none⟩)) HSX.out ?_ ?_
      ·(intro w9 hT9; clear hT9; go_simp; try with_reducible rfl)
      (try simp only [Act.put, List.setIfInBounds_toArray, List.set_cons_zero, List.set_cons_succ])
      refine tkA (i := 4) (d := some 23) (v := .string S1) HSX.out ?_ ?_
      ·(intro w9 hT9; have q9 := hT9.at_ _ _ G1.out; rw [← ES1.out] at q9; go_simp; try with_reducible rfl)
      (try simp only [Act.put, List.setIfInBounds_toArray, List.set_cons_zero, List.set_cons_succ])
      exact ih _ _ _ _ _ (by decide) ⟨true, false, 1, gx, gy, k1, k2, k3, s1, s4, S1, S4, by decide, rfl, rfl, by simp only [A7, pcT, pcF, h0, Act.put, List.setIfInBounds_toArray, List.set_cons_zero, List.set_cons_succ, Nat.reduceLeDiff, Nat.reduceAdd, Nat.reduceSub, decide_true, decide_false, Bool.and_true, Bool.and_false, Bool.true_and, Bool.false_and, Bool.toNat_true, Bool.toNat_false, Nat.le_refl, Nat.reduceMul], rfl, ⟨ha9.more (by omega), (fun _ => ⟨(HF.out.sx rfl).1.mv hm9 (HF.out.sx rfl).2, (HF.out.sx rfl).2⟩), (fun h => Bool.noConfusion h), (fun _ h => Bool.noConfusion h), (fun _ => ⟨G1.out, ES1.out⟩), (fun h => absurd h (by decide)), (fun h => absurd h (by decide)), (fun h => absurd h (by decide))⟩⟩
     ·simp only [List.getElem_toArray, List.getElem_cons_succ, List.getElem_cons_zero]; go_simp
      have hx9 : Ext u (u.alloc (.cells #[.string ⟨#[]⟩, .int .i64 0, .string ⟨#[]⟩, .int .i64 0, .int .i64 0, .string ⟨#[]⟩, .slice none 0 0, .int .i64 0, .int .i64 0, .string ⟨#[]⟩, .slice none 0 0, .string ⟨#[]⟩, .string ⟨#[]⟩] 50)) := (Ext.refl _).alloc _
      have hr9 : RX (u.alloc (.cells #[.string ⟨#[]⟩, .int .i64 0, .string ⟨#[]⟩, .int .i64 0, .int .i64 0, .string ⟨#[]⟩, .slice none 0 0, .int .i64 0, .int .i64 0, .string ⟨#[]⟩, .slice none 0 0, .string ⟨#[]⟩, .string ⟨#[]⟩] 50)) u.heap.size rl0 := heap_alloc_new _ _
      have hg9 : u.heap.size ≠ b := by have := HF.out.ma.bb; have := HF.out.ma.mv.size; omega
      have hgV : V.heap.size ≤ u.heap.size := HF.out.ma.mv.size
      have hxy : gx ≠ u.heap.size := by have := (HF.out.sx rfl).1.lt; omega
      generalize u.alloc (.cells #[.string ⟨#[]⟩, .int .i64 0, .string ⟨#[]⟩, .int .i64 0, .int .i64 0, .string ⟨#[]⟩, .slice none 0 0, .int .i64 0, .int .i64 0, .string ⟨#[]⟩, .slice none 0 0, .string ⟨#[]⟩, .string ⟨#[]⟩] 50) = u9 at *
      generalize u.heap.size = gy at *
      refine NextE.go2 (T' := (fun X => SR X gx mkL)) hK ((HF.out.sx rfl).1.mv (Mv.of_ext hx9) (HF.out.sx rfl).2) (fun _ h9 => h9) ?_
      clear hK K
      (try simp only [Act.put, List.setIfInBounds_toArray, List.set_cons_zero, List.set_cons_succ])
      exact ih _ _ _ _ _ (by decide) ⟨true, true, 0, gx, gy, k1, k2, k3, s1, s4, S1, S4, by decide, rfl, rfl, by simp only [A7, pcT, pcF, h0, Act.put, List.setIfInBounds_toArray, List.set_cons_zero, List.set_cons_succ, Nat.reduceLeDiff, Nat.reduceAdd, Nat.reduceSub, decide_true, decide_false, Bool.and_true, Bool.and_false, Bool.true_and, Bool.false_and, Bool.toNat_true, Bool.toNat_false, Nat.le_refl, Nat.reduceMul], rfl, ⟨(HF.out.ma.ext hx9).more (by omega), (fun _ => ⟨(HF.out.sx rfl).1.mv (Mv.of_ext hx9) (HF.out.sx rfl).2, (HF.out.sx rfl).2⟩), (fun _ => ⟨hr9, hg9, hgV⟩), (fun _ _ => hxy), (fun h => absurd h (by decide)), (fun h => absurd h (by decide)), (fun h => absurd h (by decide)), (fun h => absurd h (by decide))⟩⟩
    ·simp only [N7, L7, A7, pcT, pcF, T7t, T7f, h0, Act.put, List.setIfInBounds_toArray, List.set_cons_zero, List.set_cons_succ, Nat.reduceLeDiff, Nat.reduceAdd, Nat.reduceSub, decide_true, decide_false, Bool.and_true, Bool.and_false, Bool.true_and, Bool.false_and, Bool.toNat_true, Bool.toNat_false, Nat.le_refl, Nat.reduceMul]
     refine two (i := 6) (j := 12) (fun K hK => ?_) (fun K hK => ?_)
     ·simp only [List.getElem_toArray, List.getElem_cons_succ, List.getElem_cons_zero]; go_simp
      go_at_call 44
      refine (HF.out.ma.next (by omega) 3652059 3652059 rfl (by decide) (by decide)).mono ?_
      rintro e u9 ⟨k2, rfl, hk2, ha9, hm9⟩
      simp only []
      refine NextE.go2 (T' := (fun X => SR X gx mkL)) hK ((HF.out.sx rfl).1.mv hm9 (HF.out.sx rfl).2) (fun _ h9 => h9) ?_
      clear hK K
      (try simp only [Act.put, List.setIfInBounds_toArray, List.set_cons_zero, List.set_cons_succ])
      exact ih _ _ _ _ _ (by decide) ⟨true, false, 2, gx, gy, k1, k2, k3, s1, s4, S1, S4, by decide, rfl, rfl, by simp only [A7, pcT, pcF, h0, Act.put, List.setIfInBounds_toArray, List.set_cons_zero, List.set_cons_succ, Nat.reduceLeDiff, Nat.reduceAdd, Nat.reduceSub, decide_true, decide_false, Bool.and_true, Bool.and_false, Bool.true_and, Bool.false_and, Bool.toNat_true, Bool.toNat_false, Nat.le_refl, Nat.reduceMul], rfl, ⟨ha9.more (by omega), (fun _ => ⟨(HF.out.sx rfl).1.mv hm9 (HF.out.sx rfl).2, (HF.out.sx rfl).2⟩), (fun h => Bool.noConfusion h), (fun _ h => Bool.noConfusion h), (fun _ => HF.out.f1 (by decide)), (fun _ => hk2), (fun h => absurd h (by decide)), (fun h => absurd h (by decide))⟩⟩
     ·simp only [List.getElem_toArray, List.getElem_cons_succ, List.getElem_cons_zero]; go_simp
      have hx9 : Ext u (u.alloc (.cells #[.string ⟨#[]⟩, .int .i64 0, .string ⟨#[]⟩, .int .i64 0, .int .i64 0, .string ⟨#[]⟩, .slice none 0 0, .int .i64 0, .int .i64 0, .string ⟨#[]⟩, .slice none 0 0, .string ⟨#[]⟩, .string ⟨#[]⟩] 50)) := (Ext.refl _).alloc _
      have hr9 : RX (u.alloc (.cells #[.string ⟨#[]⟩, .int .i64 0, .string ⟨#[]⟩, .int .i64 0, .int .i64 0, .string ⟨#[]⟩, .slice none 0 0, .int .i64 0, .int .i64 0, .string ⟨#[]⟩, .slice none 0 0, .string ⟨#[]⟩, .string ⟨#[]⟩] 50)) u.heap.size rl0 := heap_alloc_new _ _
      have hg9 : u.heap.size ≠ b := by have := HF.out.ma.bb; have := HF.out.ma.mv.size; omega
      have hgV : V.heap.size ≤ u.heap.size := HF.out.ma.mv.size
      have hxy : gx ≠ u.heap.size := by have := (HF.out.sx rfl).1.lt; omega
      generalize u.alloc (.cells #[.string ⟨#[]⟩, .int .i64 0, .string ⟨#[]⟩, .int .i64 0, .int .i64 0, .string ⟨#[]⟩, .slice none 0 0, .int .i64 0, .int .i64 0, .string ⟨#[]⟩, .slice none 0 0, .string ⟨#[]⟩, .string ⟨#[]⟩] 50) = u9 at *
      generalize u.heap.size = gy at *
      refine NextE.go2 (T' := (fun X => SR X gx mkL)) hK ((HF.out.sx rfl).1.mv (Mv.of_ext hx9) (HF.out.sx rfl).2) (fun _ h9 => h9) ?_
      clear hK K
      (try simp only [Act.put, List.setIfInBounds_toArray, List.set_cons_zero, List.set_cons_succ])
      exact ih _ _ _ _ _ (by decide) ⟨true, true, 1, gx, gy, k1, k2, k3, s1, s4, S1, S4, by decide, rfl, rfl, by simp only [A7, pcT, pcF, h0, Act.put, List.setIfInBounds_toArray, List.set_cons_zero, List.set_cons_succ, Nat.reduceLeDiff, Nat.reduceAdd, Nat.reduceSub, decide_true, decide_false, Bool.and_true, Bool.and_false, Bool.true_and, Bool.false_and, Bool.toNat_true, Bool.toNat_false, Nat.le_refl, Nat.reduceMul], rfl, ⟨(HF.out.ma.ext hx9).more (by omega), (fun _ => ⟨(HF.out.sx rfl).1.mv (Mv.of_ext hx9) (HF.out.sx rfl).2, (HF.out.sx rfl).2⟩), (fun _ => ⟨hr9, hg9, hgV⟩), (fun _ _ => hxy), (fun _ => HF.out.f1 (by decide)), (fun h => absurd h (by decide)), (fun h => absurd h (by decide)), (fun h => absurd h (by decide))⟩⟩
    ·simp only [N7, L7, A7, pcT, pcF, T7t, T7f, h0, Act.put, List.setIfInBounds_toArray, List.set_cons_zero, List.set_cons_succ, Nat.reduceLeDiff, Nat.reduceAdd, Nat.reduceSub, decide_true, decide_false, Bool.and_true, Bool.and_false, Bool.true_and, Bool.false_and, Bool.toNat_true, Bool.toNat_false, Nat.le_refl, Nat.reduceMul]
     refine two (i := 8) (j := 12) (fun K hK => ?_) (fun K hK => ?_)
     ·simp only [List.getElem_toArray, List.getElem_cons_succ, List.getElem_cons_zero]; go_simp
      go_at_call 44
      refine (HF.out.ma.next (by omega) 6 6 rfl (by decide) (by decide)).mono ?_
      rintro e u9 ⟨k3, rfl, hk3, ha9, hm9⟩
      simp only []
      refine NextE.go2 (T' := (fun X => SR X gx mkL)) hK ((HF.out.sx rfl).1.mv hm9 (HF.out.sx rfl).2) (fun _ h9 => h9) ?_
      clear hK K
      (try simp only [Act.put, List.setIfInBounds_toArray, List.set_cons_zero, List.set_cons_succ])
      exact ih _ _ _ _ _ (by decide) ⟨true, false, 3, gx, gy, k1, k2, k3, s1, s4, S1, S4, by decide, rfl, rfl, by simp only [A7, pcT, pcF, h0, Act.put, List.setIfInBounds_toArray, List.set_cons_zero, List.set_cons_succ, Nat.reduceLeDiff, Nat.reduceAdd, Nat.reduceSub, decide_true, decide_false, Bool.and_true, Bool.and_false, Bool.true_and, Bool.false_and, Bool.toNat_true, Bool.toNat_false, Nat.le_refl, Nat.reduceMul], rfl, ⟨ha9.more (by omega), (fun _ => ⟨(HF.out.sx rfl).1.mv hm9 (HF.out.sx rfl).2, (HF.out.sx rfl).2⟩), (fun h => Bool.noConfusion h), (fun _ h => Bool.noConfusion h), (fun _ => HF.out.f1 (by decide)), (fun _ => HF.out.f2 (by decide)), (fun _ => hk3), (fun h => absurd h (by decide))⟩⟩
     ·simp only [List.getElem_toArray, List.getElem_cons_succ, List.getElem_cons_zero]; go_simp
      have hx9 : Ext u (u.alloc (.cells #[.string ⟨#[]⟩, .int .i64 0, .string ⟨#[]⟩, .int .i64 0, .int .i64 0, .string ⟨#[]⟩, .slice none 0 0, .int .i64 0, .int .i64 0, .string ⟨#[]⟩, .slice none 0 0, .string ⟨#[]⟩, .string ⟨#[]⟩] 50)) := (Ext.refl _).alloc _
      have hr9 : RX (u.alloc (.cells #[.string ⟨#[]⟩, .int .i64 0, .string ⟨#[]⟩, .int .i64 0, .int .i64 0, .string ⟨#[]⟩, .slice none 0 0, .int .i64 0, .int .i64 0, .string ⟨#[]⟩, .slice none 0 0, .string ⟨#[]⟩, .string ⟨#[]⟩] 50)) u.heap.size rl0 := heap_alloc_new _ _
      have hg9 : u.heap.size ≠ b := by have := HF.out.ma.bb; have := HF.out.ma.mv.size; omega
      have hgV : V.heap.size ≤ u.heap.size := HF.out.ma.mv.size
      have hxy : gx ≠ u.heap.size := by have := (HF.out.sx rfl).1.lt; omega
      generalize u.alloc (.cells #[.string ⟨#[]⟩, .int .i64 0, .string ⟨#[]⟩, .int .i64 0, .int .i64 0, .string ⟨#[]⟩, .slice none 0 0, .int .i64 0, .int .i64 0, .string ⟨#[]⟩, .slice none 0 0, .string ⟨#[]⟩, .string ⟨#[]⟩] 50) = u9 at *
      generalize u.heap.size = gy at *
      refine NextE.go2 (T' := (fun X => SR X gx mkL)) hK ((HF.out.sx rfl).1.mv (Mv.of_ext hx9) (HF.out.sx rfl).2) (fun _ h9 => h9) ?_
      clear hK K
      (try simp only [Act.put, List.setIfInBounds_toArray, List.set_cons_zero, List.set_cons_succ])
      exact ih _ _ _ _ _ (by decide) ⟨true, true, 2, gx, gy, k1, k2, k3, s1, s4, S1, S4, by decide, rfl, rfl, by simp only [A7, pcT, pcF, h0, Act.put, List.setIfInBounds_toArray, List.set_cons_zero, List.set_cons_succ, Nat.reduceLeDiff, Nat.reduceAdd, Nat.reduceSub, decide_true, decide_false, Bool.and_true, Bool.and_false, Bool.true_and, Bool.false_and, Bool.toNat_true, Bool.toNat_false, Nat.le_refl, Nat.reduceMul], rfl, ⟨(HF.out.ma.ext hx9).more (by omega), (fun _ => ⟨(HF.out.sx rfl).1.mv (Mv.of_ext hx9) (HF.out.sx rfl).2, (HF.out.sx rfl).2⟩), (fun _ => ⟨hr9, hg9, hgV⟩), (fun _ _ => hxy), (fun _ => HF.out.f1 (by decide)), (fun _ => HF.out.f2 (by decide)), (fun h => absurd h (by decide)), (fun h => absurd h (by decide))⟩⟩
    ·simp only [N7, L7, A7, pcT, pcF, T7t, T7f, h0, Act.put, List.setIfInBounds_toArray, List.set_cons_zero, List.set_cons_succ, Nat.reduceLeDiff, Nat.reduceAdd, Nat.reduceSub, decide_true, decide_false, Bool.and_true, Bool.and_false, Bool.true_and, Bool.false_and, Bool.toNat_true, Bool.toNat_false, Nat.le_refl, Nat.reduceMul]
     refine two (i := 9) (j := 12) (fun K hK => ?_) (fun K hK => ?_)
     ·simp only [List.getElem_toArray, List.getElem_cons_succ, List.getElem_cons_zero]; go_simp
      go_at_call 45
      refine (kind_any k3 (by have := HF.out.f3 (by decide); omega) _).mono ?_
      rintro e u9 ⟨s4, hs4, rfl, hx9⟩
      simp only []
      obtain ⟨S4, hS4⟩ : ∃ S, S = bs s4 := ⟨_, rfl⟩
      rw [← hS4]
      have ES4 := Lib.hid hS4
      have HM4 := Lib.hid hs4
      clear hS4 hs4
      refine NextE.go2 (T' := (fun X => SR X gx mkL)) hK ((HF.out.sx rfl).1.mv (Mv.of_ext hx9) (HF.out.sx rfl).2) (fun _ h9 => h9) ?_
      clear hK K
      (try simp only [Act.put, List.setIfInBounds_toArray, List.set_cons_zero, List.set_cons_succ])
      exact ih _ _ _ _ _ (by decide) ⟨true, false, 4, gx, gy, k1, k2, k3, s1, s4, S1, S4, by decide, rfl, rfl, by simp only [A7, pcT, pcF, h0, Act.put, List.setIfInBounds_toArray, List.set_cons_zero, List.set_cons_succ, Nat.reduceLeDiff, Nat.reduceAdd, Nat.reduceSub, decide_true, decide_false, Bool.and_true, Bool.and_false, Bool.true_and, Bool.false_and, Bool.toNat_true, Bool.toNat_false, Nat.le_refl, Nat.reduceMul], rfl, ⟨(HF.out.ma.ext hx9).more (by omega), (fun _ => ⟨(HF.out.sx rfl).1.mv (Mv.of_ext hx9) (HF.out.sx rfl).2, (HF.out.sx rfl).2⟩), (fun h => Bool.noConfusion h), (fun _ h => Bool.noConfusion h), (fun _ => HF.out.f1 (by decide)), (fun _ => HF.out.f2 (by decide)), (fun _ => HF.out.f3 (by decide)), (fun _ => ⟨HM4.out, ES4.out⟩)⟩⟩
     ·simp only [List.getElem_toArray, List.getElem_cons_succ, List.getElem_cons_zero]; go_simp
      have hx9 : Ext u (u.alloc (.cells #[.string ⟨#[]⟩, .int .i64 0, .string ⟨#[]⟩, .int .i64 0, .int .i64 0, .string ⟨#[]⟩, .slice none 0 0, .int .i64 0, .int .i64 0, .string ⟨#[]⟩, .slice none 0 0, .string ⟨#[]⟩, .string ⟨#[]⟩] 50)) := (Ext.refl _).alloc _
      have hr9 : RX (u.alloc (.cells #[.string ⟨#[]⟩, .int .i64 0, .string ⟨#[]⟩, .int .i64 0, .int .i64 0, .string ⟨#[]⟩, .slice none 0 0, .int .i64 0, .int .i64 0, .string ⟨#[]⟩, .slice none 0 0, .string ⟨#[]⟩, .string ⟨#[]⟩] 50)) u.heap.size rl0 := heap_alloc_new _ _
      have hg9 : u.heap.size ≠ b := by have := HF.out.ma.bb; have := HF.out.ma.mv.size; omega
      have hgV : V.heap.size ≤ u.heap.size := HF.out.ma.mv.size
      have hxy : gx ≠ u.heap.size := by have := (HF.out.sx rfl).1.lt; omega
      generalize u.alloc (.cells #[.string ⟨#[]⟩, .int .i64 0, .string ⟨#[]⟩, .int .i64 0, .int .i64 0, .string ⟨#[]⟩, .slice none 0 0, .int .i64 0, .int .i64 0, .string ⟨#[]⟩, .slice none 0 0, .string ⟨#[]⟩, .string ⟨#[]⟩] 50) = u9 at *
      generalize u.heap.size = gy at *
      refine NextE.go2 (T' := (fun X => SR X gx mkL)) hK ((HF.out.sx rfl).1.mv (Mv.of_ext hx9) (HF.out.sx rfl).2) (fun _ h9 => h9) ?_
      clear hK K
      (try simp only [Act.put, List.setIfInBounds_toArray, List.set_cons_zero, List.set_cons_succ])
      exact ih _ _ _ _ _ (by decide) ⟨true, true, 3, gx, gy, k1, k2, k3, s1, s4, S1, S4, by decide, rfl, rfl, by simp only [A7, pcT, pcF, h0, Act.put, List.setIfInBounds_toArray, List.set_cons_zero, List.set_cons_succ, Nat.reduceLeDiff, Nat.reduceAdd, Nat.reduceSub, decide_true, decide_false, Bool.and_true, Bool.and_false, Bool.true_and, Bool.false_and, Bool.toNat_true, Bool.toNat_false, Nat.le_refl, Nat.reduceMul], rfl, ⟨(HF.out.ma.ext hx9).more (by omega), (fun _ => ⟨(HF.out.sx rfl).1.mv (Mv.of_ext hx9) (HF.out.sx rfl).2, (HF.out.sx rfl).2⟩), (fun _ => ⟨hr9, hg9, hgV⟩), (fun _ _ => hxy), (fun _ => HF.out.f1 (by decide)), (fun _ => HF.out.f2 (by decide)), (fun _ => HF.out.f3 (by decide)), (fun h => absurd h (by decide))⟩⟩
    ·simp only [N7, L7, A7, pcT, pcF, T7t, T7f, h0, Act.put, List.setIfInBounds_toArray, List.set_cons_zero, List.set_cons_succ, Nat.reduceLeDiff, Nat.reduceAdd, Nat.reduceSub, decide_true, decide_false, Bool.and_true, Bool.and_false, Bool.true_and, Bool.false_and, Bool.toNat_true, Bool.toNat_false, Nat.le_refl, Nat.reduceMul]
     refine two (i := 10) (j := 12) (fun K hK => ?_) (fun K hK => ?_)
     ·simp only [List.getElem_toArray, List.getElem_cons_succ, List.getElem_cons_zero]; go_simp
      go_at_call 31
      refine (ptrue_any _).mono ?_
      rintro e u9 ⟨rfl, hx9⟩
      simp only []
      refine NextE.go2 (T' := (fun X => SR X gx mkL)) hK ((HF.out.sx rfl).1.mv (Mv.of_ext hx9) (HF.out.sx rfl).2) (fun _ h9 => h9) ?_
      clear hK K
      (try simp only [Act.put, List.setIfInBounds_toArray, List.set_cons_zero, List.set_cons_succ])
      have HSX := Lib.hid ((HF.out.sx rfl).1.mv (Mv.of_ext hx9) (HF.out.sx rfl).2)
      refine tkA (i := 11) (d := some 30) (v := .agg #[.string S1, .int .i64 k2, .string S4, .int .i64 2, .int .i64 1, .string ⟨#[]⟩, .slice none 0 0, .int .i64 0, .int .i64 0, .string ⟨#[]⟩, .slice none 0 0, .string ⟨#[]⟩, .string ⟨#[]⟩]) HSX.out ?_ ?_
      ·(intro w9 hT9; clear hT9; go_simp; try with_reducible rfl)
      (try simp only [Act.put, List.setIfInBounds_toArray, List.set_cons_zero, List.set_cons_succ])
      exact ih _ _ _ _ _ (by decide) ⟨true, false, 5, gx, gy, k1, k2, k3, s1, s4, S1, S4, by decide, rfl, rfl, by simp only [A7, pcT, pcF, h0, Act.put, List.setIfInBounds_toArray, List.set_cons_zero, List.set_cons_succ, Nat.reduceLeDiff, Nat.reduceAdd, Nat.reduceSub, decide_true, decide_false, Bool.and_true, Bool.and_false, Bool.true_and, Bool.false_and, Bool.toNat_true, Bool.toNat_false, Nat.le_refl, Nat.reduceMul], rfl, ⟨(HF.out.ma.ext hx9).more (by omega), (fun _ => ⟨(HF.out.sx rfl).1.mv (Mv.of_ext hx9) (HF.out.sx rfl).2, (HF.out.sx rfl).2⟩), (fun h => Bool.noConfusion h), (fun _ h => Bool.noConfusion h), (fun _ => HF.out.f1 (by decide)), (fun _ => HF.out.f2 (by decide)), (fun _ => HF.out.f3 (by decide)), (fun _ => HF.out.f4 (by decide))⟩⟩
     ·simp only [List.getElem_toArray, List.getElem_cons_succ, List.getElem_cons_zero]; go_simp
      have hx9 : Ext u (u.alloc (.cells #[.string ⟨#[]⟩, .int .i64 0, .string ⟨#[]⟩, .int .i64 0, .int .i64 0, .string ⟨#[]⟩, .slice none 0 0, .int .i64 0, .int .i64 0, .string ⟨#[]⟩, .slice none 0 0, .string ⟨#[]⟩, .string ⟨#[]⟩] 50)) := (Ext.refl _).alloc _
      have hr9 : RX (u.alloc (.cells #[.string ⟨#[]⟩, .int .i64 0, .string ⟨#[]⟩, .int .i64 0, .int .i64 0, .string ⟨#[]⟩, .slice none 0 0, .int .i64 0, .int .i64 0, .string ⟨#[]⟩, .slice none 0 0, .string ⟨#[]⟩, .string ⟨#[]⟩] 50)) u.heap.size rl0 := heap_alloc_new _ _
      have hg9 : u.heap.size ≠ b := by have := HF.out.ma.bb; have := HF.out.ma.mv.size; omega
      have hgV : V.heap.size ≤ u.heap.size := HF.out.ma.mv.size
      have hxy : gx ≠ u.heap.size := by have := (HF.out.sx rfl).1.lt; omega
      generalize u.alloc (.cells #[.string ⟨#[]⟩, .int .i64 0, .string ⟨#[]⟩, .int .i64 0, .int .i64 0, .string ⟨#[]⟩, .slice none 0 0, .int .i64 0, .int .i64 0, .string ⟨#[]⟩, .slice none 0 0, .string ⟨#[]⟩, .string ⟨#[]⟩] 50) = u9 at *
      generalize u.heap.size = gy at *
      refine NextE.go2 (T' := (fun X => SR X gx mkL)) hK ((HF.out.sx rfl).1.mv (Mv.of_ext hx9) (HF.out.sx rfl).2) (fun _ h9 => h9) ?_
      clear hK K
      (try simp only [Act.put, List.setIfInBounds_toArray, List.set_cons_zero, List.set_cons_succ])
      exact ih _ _ _ _ _ (by decide) ⟨true, true, 4, gx, gy, k1, k2, k3, s1, s4, S1, S4, by decide, rfl, rfl, by simp only [A7, pcT, pcF, h0, Act.put, List.setIfInBounds_toArray, List.set_cons_zero, List.set_cons_succ, Nat.reduceLeDiff, Nat.reduceAdd, Nat.reduceSub, decide_true, decide_false, Bool.and_true, Bool.and_false, Bool.true_and, Bool.false_and, Bool.toNat_true, Bool.toNat_false, Nat.le_refl, Nat.reduceMul], rfl, ⟨(HF.out.ma.ext hx9).more (by omega), (fun _ => ⟨(HF.out.sx rfl).1.mv (Mv.of_ext hx9) (HF.out.sx rfl).2, (HF.out.sx rfl).2⟩), (fun _ => ⟨hr9, hg9, hgV⟩), (fun _ _ => hxy), (fun _ => HF.out.f1 (by decide)), (fun _ => HF.out.f2 (by decide)), (fun _ => HF.out.f3 (by decide)), (fun _ => HF.out.f4 (by decide))⟩⟩
    ·simp only [N7, L7, A7, pcT, pcF, T7t, T7f, h0, Act.put, List.setIfInBounds_toArray, List.set_cons_zero, List.set_cons_succ, Nat.reduceLeDiff, Nat.reduceAdd, Nat.reduceSub, decide_true, decide_false, Bool.and_true, Bool.and_false, Bool.true_and, Bool.false_and, Bool.toNat_true, Bool.toNat_false, Nat.le_refl, Nat.reduceMul]
     refine one (i := 12) (fun K hK => ?_)
     ·simp only [List.getElem_toArray, List.getElem_cons_succ, List.getElem_cons_zero]; go_simp
      have hx9 : Ext u (u.alloc (.cells #[.string ⟨#[]⟩, .int .i64 0, .string ⟨#[]⟩, .int .i64 0, .int .i64 0, .string ⟨#[]⟩, .slice none 0 0, .int .i64 0, .int .i64 0, .string ⟨#[]⟩, .slice none 0 0, .string ⟨#[]⟩, .string ⟨#[]⟩] 50)) := (Ext.refl _).alloc _
      have hr9 : RX (u.alloc (.cells #[.string ⟨#[]⟩, .int .i64 0, .string ⟨#[]⟩, .int .i64 0, .int .i64 0, .string ⟨#[]⟩, .slice none 0 0, .int .i64 0, .int .i64 0, .string ⟨#[]⟩, .slice none 0 0, .string ⟨#[]⟩, .string ⟨#[]⟩] 50)) u.heap.size rl0 := heap_alloc_new _ _
      have hg9 : u.heap.size ≠ b := by have := HF.out.ma.bb; have := HF.out.ma.mv.size; omega
      have hgV : V.heap.size ≤ u.heap.size := HF.out.ma.mv.size
      have hxy : gx ≠ u.heap.size := by have := (HF.out.sx rfl).1.lt; omega
      generalize u.alloc (.cells #[.string ⟨#[]⟩, .int .i64 0, .string ⟨#[]⟩, .int .i64 0, .int .i64 0, .string ⟨#[]⟩, .slice none 0 0, .int .i64 0, .int .i64 0, .string ⟨#[]⟩, .slice none 0 0, .string ⟨#[]⟩, .string ⟨#[]⟩] 50) = u9 at *
      generalize u.heap.size = gy at *
      refine NextE.go2 (T' := (fun X => SR X gx mkL)) hK ((HF.out.sx rfl).1.mv (Mv.of_ext hx9) (HF.out.sx rfl).2) (fun _ h9 => h9) ?_
      clear hK K
      (try simp only [Act.put, List.setIfInBounds_toArray, List.set_cons_zero, List.set_cons_succ])
      exact ih _ _ _ _ _ (by decide) ⟨true, true, 5, gx, gy, k1, k2, k3, s1, s4, S1, S4, by decide, rfl, rfl, by simp only [A7, pcT, pcF, h0, Act.put, List.setIfInBounds_toArray, List.set_cons_zero, List.set_cons_succ, Nat.reduceLeDiff, Nat.reduceAdd, Nat.reduceSub, decide_true, decide_false, Bool.and_true, Bool.and_false, Bool.true_and, Bool.false_and, Bool.toNat_true, Bool.toNat_false, Nat.le_refl, Nat.reduceMul], rfl, ⟨(HF.out.ma.ext hx9).more (by omega), (fun _ => ⟨(HF.out.sx rfl).1.mv (Mv.of_ext hx9) (HF.out.sx rfl).2, (HF.out.sx rfl).2⟩), (fun _ => ⟨hr9, hg9, hgV⟩), (fun _ _ => hxy), (fun _ => HF.out.f1 (by decide)), (fun _ => HF.out.f2 (by decide)), (fun _ => HF.out.f3 (by decide)), (fun _ => HF.out.f4 (by decide))⟩⟩
   | true =>
    rcases hp with rfl | rfl | rfl | rfl | rfl | rfl
    ·simp only [N7, L7, A7, pcT, pcF, T7t, T7f, h0, Act.put, List.setIfInBounds_toArray, List.set_cons_zero, List.set_cons_succ, Nat.reduceLeDiff, Nat.reduceAdd, Nat.reduceSub, decide_true, decide_false, Bool.and_true, Bool.and_false, Bool.true_and, Bool.false_and, Bool.toNat_true, Bool.toNat_false, Nat.le_refl, Nat.reduceMul]
     refine one (i := 2) (fun K hK => ?_)
     ·simp only [List.getElem_toArray, List.getElem_cons_succ, List.getElem_cons_zero]; go_simp
      go_at_call 44
      refine (HF.out.ma.next (by omega) 3 3 rfl (by decide) (by decide)).mono ?_
      rintro e u9 ⟨k1, rfl, hk1, ha9, hm9⟩
      simp only []
      have hk1I : (k1 : Int) < 3 := by omega
      obtain ⟨s1, hs1⟩ : ∃ s, mkL[k1]? = some s := ⟨_, List.getElem?_eq_getElem (by simpa [mkL] using hk1)⟩
      obtain ⟨S1, hS1⟩ : ∃ S, S = bs s1 := ⟨_, rfl⟩
      have G1 := Lib.hid hs1
      have ES1 := Lib.hid hS1
      clear hs1 hS1
      refine NextE.go2 (T' := (fun X => SR X gx mkL)) hK ((HF.out.sx rfl).1.mv hm9 (HF.out.sx rfl).2) (fun _ h9 => h9) ?_
      clear hK K
      (try simp only [Act.put, List.setIfInBounds_toArray, List.set_cons_zero, List.set_cons_succ])
      have HSX := Lib.hid ((HF.out.sx rfl).1.mv hm9 (HF.out.sx rfl).2)
      refine tkA (i := 3) (d := some 22) (v := .pointer (some ⟨gx, k1, none⟩)) HSX.out ?_ ?_
      ·(intro w9 hT9; clear hT9; go_simp; try with_reducible rfl)
      (try simp only [Act.put, List.setIfInBounds_toArray, List.set_cons_zero, List.set_cons_succ])
      refine tkA (i := 4) (d := some 23) (v := .string S1) HSX.out ?_ ?_
      ·(intro w9 hT9; have q9 := hT9.at_ _ _ G1.out; rw [← ES1.out] at q9; go_simp; try with_reducible rfl)
      (try simp only [Act.put, List.setIfInBounds_toArray, List.set_cons_zero, List.set_cons_succ])
      exact ih _ _ _ _ _ (by decide) ⟨true, true, 1, gx, gy, k1, k2, k3, s1, s4, S1, S4, by decide, rfl, rfl, by simp only [A7, pcT, pcF, h0, Act.put, List.setIfInBounds_toArray, List.set_cons_zero, List.set_cons_succ, Nat.reduceLeDiff, Nat.reduceAdd, Nat.reduceSub, decide_true, decide_false, Bool.and_true, Bool.and_false, Bool.true_and, Bool.false_and, Bool.toNat_true, Bool.toNat_false, Nat.le_refl, Nat.reduceMul], rfl, ⟨ha9.more (by omega), (fun _ => ⟨(HF.out.sx rfl).1.mv hm9 (HF.out.sx rfl).2, (HF.out.sx rfl).2⟩), (fun _ => ⟨(HF.out.sy rfl).1.mv hm9 (HF.out.sy rfl).2.1, (HF.out.sy rfl).2⟩), HF.out.xy, (fun _ => ⟨G1.out, ES1.out⟩), (fun h => absurd h (by decide)), (fun h => absurd h (by decide)), (fun h => absurd h (by decide))⟩⟩
    ·simp only [N7, L7, A7, pcT, pcF, T7t, T7f, h0, Act.put, List.setIfInBounds_toArray, List.set_cons_zero, List.set_cons_succ, Nat.reduceLeDiff, Nat.reduceAdd, Nat.reduceSub, decide_true, decide_false, Bool.and_true, Bool.and_false, Bool.true_and, Bool.false_and, Bool.toNat_true, Bool.toNat_false, Nat.le_refl, Nat.reduceMul]
     refine one (i := 6) (fun K hK => ?_)
     ·simp only [List.getElem_toArray, List.getElem_cons_succ, List.getElem_cons_zero]; go_simp
      go_at_call 44
      refine (HF.out.ma.next (by omega) 3652059 3652059 rfl (by decide) (by decide)).mono ?_
      rintro e u9 ⟨k2, rfl, hk2, ha9, hm9⟩
      simp only []
      refine NextE.go2 (T' := (fun X => SR X gx mkL)) hK ((HF.out.sx rfl).1.mv hm9 (HF.out.sx rfl).2) (fun _ h9 => h9) ?_
      clear hK K
      (try simp only [Act.put, List.setIfInBounds_toArray, List.set_cons_zero, List.set_cons_succ])
      exact ih _ _ _ _ _ (by decide) ⟨true, true, 2, gx, gy, k1, k2, k3, s1, s4, S1, S4, by decide, rfl, rfl, by simp only [A7, pcT, pcF, h0, Act.put, List.setIfInBounds_toArray, List.set_cons_zero, List.set_cons_succ, Nat.reduceLeDiff, Nat.reduceAdd, Nat.reduceSub, decide_true, decide_false, Bool.and_true, Bool.and_false, Bool.true_and, Bool.false_and, Bool.toNat_true, Bool.toNat_false, Nat.le_refl, Nat.reduceMul], rfl, ⟨ha9.more (by omega), (fun _ => ⟨(HF.out.sx rfl).1.mv hm9 (HF.out.sx rfl).2, (HF.out.sx rfl).2⟩), (fun _ => ⟨(HF.out.sy rfl).1.mv hm9 (HF.out.sy rfl).2.1, (HF.out.sy rfl).2⟩), HF.out.xy, (fun _ => HF.out.f1 (by decide)), (fun _ => hk2), (fun h => absurd h (by decide)), (fun h => absurd h (by decide))⟩⟩
    ·simp only [N7, L7, A7, pcT, pcF, T7t, T7f, h0, Act.put, List.setIfInBounds_toArray, List.set_cons_zero, List.set_cons_succ, Nat.reduceLeDiff, Nat.reduceAdd, Nat.reduceSub, decide_true, decide_false, Bool.and_true, Bool.and_false, Bool.true_and, Bool.false_and, Bool.toNat_true, Bool.toNat_false, Nat.le_refl, Nat.reduceMul]
     refine one (i := 8) (fun K hK => ?_)
     ·simp only [List.getElem_toArray, List.getElem_cons_succ, List.getElem_cons_zero]; go_simp
      go_at_call 44
      refine (HF.out.ma.next (by omega) 6 6 rfl (by decide) (by decide)).mono ?_
      rintro e u9 ⟨k3, rfl, hk3, ha9, hm9⟩
      simp only []
      refine NextE.go2 (T' := (fun X => SR X gx mkL)) hK ((HF.out.sx rfl).1.mv hm9 (HF.out.sx rfl).2) (fun _ h9 => h9) ?_
      clear hK K
      (try simp only [Act.put, List.setIfInBounds_toArray, List.set_cons_zero, List.set_cons_succ])
      exact ih _ _ _ _ _ (by decide) ⟨true, true, 3, gx, gy, k1, k2, k3, s1, s4, S1, S4, by decide, rfl, rfl, by simp only [A7, pcT, pcF, h0, Act.put, List.setIfInBounds_toArray, List.set_cons_zero, List.set_cons_succ, Nat.reduceLeDiff, Nat.reduceAdd, Nat.reduceSub, decide_true, decide_false, Bool.and_true, Bool.and_false, Bool.true_and, Bool.false_and, Bool.toNat_true, Bool.toNat_false, Nat.le_refl, Nat.reduceMul], rfl, ⟨ha9.more (by omega), (fun _ => ⟨(HF.out.sx rfl).1.mv hm9 (HF.out.sx rfl).2, (HF.out.sx rfl).2⟩), (fun _ => ⟨(HF.out.sy rfl).1.mv hm9 (HF.out.sy rfl).2.1, (HF.out.sy rfl).2⟩), HF.out.xy, (fun _ => HF.out.f1 (by decide)), (fun _ => HF.out.f2 (by decide)), (fun _ => hk3), (fun h => absurd h (by decide))⟩⟩
    ·simp only [N7, L7, A7, pcT, pcF, T7t, T7f, h0, Act.put, List.setIfInBounds_toArray, List.set_cons_zero, List.set_cons_succ, Nat.reduceLeDiff, Nat.reduceAdd, Nat.reduceSub, decide_true, decide_false, Bool.and_true, Bool.and_false, Bool.true_and, Bool.false_and, Bool.toNat_true, Bool.toNat_false, Nat.le_refl, Nat.reduceMul]
     refine one (i := 9) (fun K hK => ?_)
     ·simp only [List.getElem_toArray, List.getElem_cons_succ, List.getElem_cons_zero]; go_simp
      go_at_call 45
      refine (kind_any k3 (by have := HF.out.f3 (by decide); omega) _).mono ?_
      rintro e u9 ⟨s4, hs4, rfl, hx9⟩
      simp only []
      obtain ⟨S4, hS4⟩ : ∃ S, S = bs s4 := ⟨_, rfl⟩
      rw [← hS4]
      have ES4 := Lib.hid hS4
      have HM4 := Lib.hid hs4
      clear hS4 hs4
      refine NextE.go2 (T' := (fun X => SR X gx mkL)) hK ((HF.out.sx rfl).1.mv (Mv.of_ext hx9) (HF.out.sx rfl).2) (fun _ h9 => h9) ?_
      clear hK K
      (try simp only [Act.put, List.setIfInBounds_toArray, List.set_cons_zero, List.set_cons_succ])
      exact ih _ _ _ _ _ (by decide) ⟨true, true, 4, gx, gy, k1, k2, k3, s1, s4, S1, S4, by decide, rfl, rfl, by simp only [A7, pcT, pcF, h0, Act.put, List.setIfInBounds_toArray, List.set_cons_zero, List.set_cons_succ, Nat.reduceLeDiff, Nat.reduceAdd, Nat.reduceSub, decide_true, decide_false, Bool.and_true, Bool.and_false, Bool.true_and, Bool.false_and, Bool.toNat_true, Bool.toNat_false, Nat.le_refl, Nat.reduceMul], rfl, ⟨(HF.out.ma.ext hx9).more (by omega), (fun _ => ⟨(HF.out.sx rfl).1.mv (Mv.of_ext hx9) (HF.out.sx rfl).2, (HF.out.sx rfl).2⟩), (fun _ => ⟨(HF.out.sy rfl).1.mv (Mv.of_ext hx9) (HF.out.sy rfl).2.1, (HF.out.sy rfl).2⟩), HF.out.xy, (fun _ => HF.out.f1 (by decide)), (fun _ => HF.out.f2 (by decide)), (fun _ => HF.out.f3 (by decide)), (fun _ => ⟨HM4.out, ES4.out⟩)⟩⟩
    ·simp only [N7, L7, A7, pcT, pcF, T7t, T7f, h0, Act.put, List.setIfInBounds_toArray, List.set_cons_zero, List.set_cons_succ, Nat.reduceLeDiff, Nat.reduceAdd, Nat.reduceSub, decide_true, decide_false, Bool.and_true, Bool.and_false, Bool.true_and, Bool.false_and, Bool.toNat_true, Bool.toNat_false, Nat.le_refl, Nat.reduceMul]
     refine one (i := 10) (fun K hK => ?_)
     ·simp only [List.getElem_toArray, List.getElem_cons_succ, List.getElem_cons_zero]; go_simp
      go_at_call 31
      refine (ptrue_any _).mono ?_
      rintro e u9 ⟨rfl, hx9⟩
      simp only []
      refine NextE.go2 (T' := (fun X => SR X gx mkL)) hK ((HF.out.sx rfl).1.mv (Mv.of_ext hx9) (HF.out.sx rfl).2) (fun _ h9 => h9) ?_
      clear hK K
      (try simp only [Act.put, List.setIfInBounds_toArray, List.set_cons_zero, List.set_cons_succ])
      have HSX := Lib.hid ((HF.out.sx rfl).1.mv (Mv.of_ext hx9) (HF.out.sx rfl).2)
      refine tkA (i := 11) (d := some 30) (v := .agg #[.string S1, .int .i64 k2, .string S4, .int .i64 2, .int .i64 1, .string ⟨#[]⟩, .slice none 0 0, .int .i64 0, .int .i64 0, .string ⟨#[]⟩, .slice none 0 0, .string ⟨#[]⟩, .string ⟨#[]⟩]) HSX.out ?_ ?_
      ·(intro w9 hT9; clear hT9; go_simp; try with_reducible rfl)
      (try simp only [Act.put, List.setIfInBounds_toArray, List.set_cons_zero, List.set_cons_succ])
      exact ih _ _ _ _ _ (by decide) ⟨true, true, 5, gx, gy, k1, k2, k3, s1, s4, S1, S4, by decide, rfl, rfl, by simp only [A7, pcT, pcF, h0, Act.put, List.setIfInBounds_toArray, List.set_cons_zero, List.set_cons_succ, Nat.reduceLeDiff, Nat.reduceAdd, Nat.reduceSub, decide_true, decide_false, Bool.and_true, Bool.and_false, Bool.true_and, Bool.false_and, Bool.toNat_true, Bool.toNat_false, Nat.le_refl, Nat.reduceMul], rfl, ⟨(HF.out.ma.ext hx9).more (by omega), (fun _ => ⟨(HF.out.sx rfl).1.mv (Mv.of_ext hx9) (HF.out.sx rfl).2, (HF.out.sx rfl).2⟩), (fun _ => ⟨(HF.out.sy rfl).1.mv (Mv.of_ext hx9) (HF.out.sy rfl).2.1, (HF.out.sy rfl).2⟩), HF.out.xy, (fun _ => HF.out.f1 (by decide)), (fun _ => HF.out.f2 (by decide)), (fun _ => HF.out.f3 (by decide)), (fun _ => HF.out.f4 (by decide))⟩⟩
    ·simp only [N7, L7, A7, pcT, pcF, T7t, T7f, h0, Act.put, List.setIfInBounds_toArray, List.set_cons_zero, List.set_cons_succ, Nat.reduceLeDiff, Nat.reduceAdd, Nat.reduceSub, decide_true, decide_false, Bool.and_true, Bool.and_false, Bool.true_and, Bool.false_and, Bool.toNat_true, Bool.toNat_false, Nat.le_refl, Nat.reduceMul]
     have HR9 := Lib.hid (HF.out.sy rfl)
     obtain ⟨y0, y1, y2, y3, y4, y5, y6, y7, y8, y9, y10, y11, y12⟩ := HR9.out.1.cs
     obtain ⟨z0, z1, z2, z3, z4, z5, z6, z7, z8, z9, z10, z11, z12⟩ := HR9.out.1.zs
     refine one (i := 13) (fun K hK => ?_)
     simp only [List.getElem_toArray, List.getElem_cons_succ, List.getElem_cons_zero]; go_simp
     refine NextE.go2 (T' := fun X => SR X gx mkL) (u' := fin13 u gy ⟨S1, (k2 : Int), S4, ⟨2, 1, ⟨#[]⟩, none, 0, 0⟩, nd0, ⟨#[]⟩, ⟨#[]⟩⟩) hK ((HF.out.sx rfl).1.blk (fin13_other _ _ _ _ (HF.out.xy rfl rfl)) (Nat.le_of_eq (fin13_size _ _ _).symm)) (fun _ h9 => h9) ?_
     clear hK K
     (try simp only [Act.put, List.setIfInBounds_toArray, List.set_cons_zero, List.set_cons_succ])
     clear y0 y1 y2 y3 y4 y5 y6 y7 y8 y9 y10 y11 y12 z0 z1 z2 z3 z4 z5 z6 z7 z8 z9 z10 z11 z12
     refine wpE_done (by kernel_rfl) ?_ _
     have HF := HF.out
     go_wp2_with fail
     go_meet
     case rel => exact ⟨gy, ⟨S1, (k2 : Int), S4, ⟨2, 1, ⟨#[]⟩, none, 0, 0⟩, nd0, ⟨#[]⟩, ⟨#[]⟩⟩, ⟨s1, (k2 : Int), s4, trTrue, trZero, [], []⟩, rfl, (HF.ma.more (by omega)).rule (HF.sy rfl).1 (HF.sy rfl).2.2 ⟨S1, (k2 : Int), S4, ⟨2, 1, ⟨#[]⟩, none, 0, 0⟩, nd0, ⟨#[]⟩, ⟨#[]⟩⟩ ⟨s1, (k2 : Int), s4, trTrue, trZero, [], []⟩ ⟨(HF.f1 (by decide)).2, rfl, (HF.f4 (by decide)).2, Rep.leaf _ _ 2 1 [], Rep.leaf _ _ 0 0 [], rfl, rfl⟩, ⟨mkL_ok _ (List.mem_of_getElem? (HF.f1 (by decide)).1), by have := HF.f2 (by decide); constructor <;> (simp only; omega), kindsL_ok _ (HF.f4 (by decide)).1, true_gd, (by decide : tsz trTrue ≤ 121), .inl rfl, .inl rfl⟩⟩
 case rest =>
 obtain ⟨g, d0, x0, rfl, hm0, hg0⟩ := hcut
 have HM0 := Lib.hid hm0
 have HQ0 := Lib.hid hg0
 have HNU := Lib.hid (any_ok 4 (by decide))
 have HF4 := Lib.hid FN4
 clear hm0 hg0 HA0 HMB HB
 go_upto_if 33 with (first | (go_at_call 44; refine (HM0.out.next (by omega) 2 2 rfl (by decide) (by decide)).mono ?_; rintro e v1 ⟨q1, rfl, hq1, hm1⟩; have HM1 := Lib.hid hm1; clear hm1))
 go_cut [36] (fun _ wx => ∃ d x, MS wr b A1 c1 lm (10 + 700 * n + 3 + 1 + FN 4) g d x wx ∧ GW0 121 x)
 case first =>
  by_cases hz : q1 = 0
  ·have hqb : ((q1 : Int) == 0) = true := by simp [hz]
   clear hz hq1
   go_wp2_with (first | (go_at_call 46; refine (HM1.out.call HNU.out (by have := HF4.out; omega) 4 rfl).mono ?_; rintro e v2 ⟨dt, t, rfl, hr, hgt, hm2⟩; have HM2 := Lib.hid hm2; have HR := Lib.hid hr; have HGT := Lib.hid hgt; obtain ⟨y0, y1, y2, y3, y4, y5, y6, y7, y8, y9, y10, y11, y12⟩ := hm2.rx.cs; obtain ⟨z0, z1, z2, z3, z4, z5, z6, z7, z8, z9, z10, z11, z12⟩ := hm2.rx.zs; clear hm2 hr hgt))
   go_meet
   case rel => exact ⟨_, _, HM2.out.setI dt t HR.out, HQ0.out.ift (HGT.out.gd (by decide)) (by have := HGT.out.2; rw [zn4] at this; exact this)⟩
  ·have hqb : ((q1 : Int) == 0) = false := by simp [hz]
   clear hz hq1
   go_wp2_with fail
   go_meet
   case rel => exact ⟨_, _, HM1.out.more (by omega), HQ0.out⟩
 case rest =>
 obtain ⟨d1, x1, hm2, hg2⟩ := hcut
 have HM2 := Lib.hid (hm2.more (show _ ≤ 10 + 700 * n + 330 by have := HF4.out; omega))
 have HQ2 := Lib.hid hg2
 clear hm2 hg2 HM0 HM1 HQ0 hq1
 go_upto_region 11 with (first | (go_at_call 46; refine (HM2.out.call HNU.out (by have := HF4.out; omega) 4 rfl).mono ?_; rintro e v3 ⟨dt, t, rfl, hr, hgt, hm3⟩; have HM3 := Lib.hid hm3; have HR := Lib.hid hr; have HGT := Lib.hid hgt; obtain ⟨y0, y1, y2, y3, y4, y5, y6, y7, y8, y9, y10, y11, y12⟩ := hm3.rx.cs; obtain ⟨z0, z1, z2, z3, z4, z5, z6, z7, z8, z9, z10, z11, z12⟩ := hm3.rx.zs; clear hm3 hr hgt))
 have HM4 := Lib.hid ((HM3.out.setD dt t HR.out).more (show _ ≤ 10 + 700 * n + 660 by have := HF4.out; omega))
 have HQ4 := Lib.hid (HQ2.out.due (HGT.out.gd (by decide)) (by have := HGT.out.2; rw [zn4] at this; exact this))
 clear HM2 HM3 HQ2 HR HGT y0 y1 y2 y3 y4 y5 y6 y7 y8 y9 y10 y11 y12 z0 z1 z2 z3 z4 z5 z6 z7 z8 z9 z10 z11 z12
 generalize ((((v3.setCell ⟨g, 7, none⟩ (.int .i64 dt.k)).setCell ⟨g, 8, none⟩ (.int .i64 dt.n)).setCell ⟨g, 9, none⟩ (.string dt.s)).setCell ⟨g, 10, none⟩ (.slice dt.A dt.m dt.c)) = v4 at *
 generalize ({ x1 with due := t } : Rl) = x4 at *
 generalize ({ d1 with due := dt } : RlD) = d4 at *
 go_upto_if 42 with (first | (go_at_call 44; refine (HM4.out.next (by omega) 2 2 rfl (by decide) (by decide)).mono ?_; rintro e v5a ⟨q5, rfl, hq5, hm5⟩; have HN5 := Lib.hid hm5; clear hm5))
 go_cut [46] (fun _ wx => ∃ d x, MS wr b A1 c1 lm (10 + 700 * n + 662) g d x wx ∧ GW 121 x)
 case first =>
  by_cases hz : q5 = 0
  ·have hqb : ((q5 : Int) == 0) = true := by simp [hz]
   clear hz hq5
   go_wp2_with fail
   refine (HN5.out.next (by omega) 6 6 rfl (by decide) (by decide)).mono ?_
   rintro e v5b ⟨r5, rfl, hr5, hm6⟩
   have HL5 := Lib.hid hm6
   clear hm6
   go_wp2_with (first | (go_at_call 45; refine (kind_any r5 (by omega) _).mono ?_; rintro e v5c ⟨s7, hs7, rfl, hx7⟩; obtain ⟨S7, hS7⟩ : ∃ S, S = bs s7 := ⟨_, rfl⟩; rw [← hS7]; have HS7 := Lib.hid hS7; have HK7 := Lib.hid (kindsL_ok s7 hs7); have HM7 := Lib.hid (HL5.out.ext hx7); obtain ⟨y0, y1, y2, y3, y4, y5, y6, y7, y8, y9, y10, y11, y12⟩ := HM7.out.rx.cs; obtain ⟨z0, z1, z2, z3, z4, z5, z6, z7, z8, z9, z10, z11, z12⟩ := HM7.out.rx.zs; clear hx7 hS7 hs7))
   go_meet
   case rel => exact ⟨_, _, (HM7.out.set11 s7 S7 HS7.out).more (by omega), HQ4.out.un HK7.out⟩
  ·have hqb : ((q5 : Int) == 0) = false := by simp [hz]
   clear hz hq5
   go_wp2_with fail
   go_meet
   case rel => exact ⟨_, _, HN5.out.more (by omega), HQ4.out⟩
 case rest =>
 obtain ⟨d5, x5, hm5, hg5⟩ := hcut
 have HM5 := Lib.hid hm5
 have HQ5 := Lib.hid hg5
 clear hm5 hg5 HM4 HN5 HQ4 hq5
 go_upto_if 49 with (first | (go_at_call 44; refine (HM5.out.next (by omega) 2 2 rfl (by decide) (by decide)).mono ?_; rintro e v6a ⟨q6, rfl, hq6, hm5⟩; have HN6 := Lib.hid hm5; clear hm5))
 go_cut [53] (fun _ wx => ∃ d x, MS wr b A1 c1 lm (10 + 700 * n + 664) g d x wx ∧ GW 121 x)
 case first =>
  by_cases hz : q6 = 0
  ·have hqb : ((q6 : Int) == 0) = true := by simp [hz]
   clear hz hq6
   go_wp2_with fail
   refine (HN6.out.next (by omega) 6 6 rfl (by decide) (by decide)).mono ?_
   rintro e v6b ⟨r6, rfl, hr6, hm6⟩
   have HL6 := Lib.hid hm6
   clear hm6
   go_wp2_with (first | (go_at_call 45; refine (kind_any r6 (by omega) _).mono ?_; rintro e v6c ⟨s7, hs7, rfl, hx7⟩; obtain ⟨S7, hS7⟩ : ∃ S, S = bs s7 := ⟨_, rfl⟩; rw [← hS7]; have HS7 := Lib.hid hS7; have HK7 := Lib.hid (kindsL_ok s7 hs7); have HM7 := Lib.hid (HL6.out.ext hx7); obtain ⟨y0, y1, y2, y3, y4, y5, y6, y7, y8, y9, y10, y11, y12⟩ := HM7.out.rx.cs; obtain ⟨z0, z1, z2, z3, z4, z5, z6, z7, z8, z9, z10, z11, z12⟩ := HM7.out.rx.zs; clear hx7 hS7 hs7))
   go_meet
   case rel => exact ⟨_, _, (HM7.out.set12 s7 S7 HS7.out).more (by omega), HQ5.out.el HK7.out⟩
  ·have hqb : ((q6 : Int) == 0) = false := by simp [hz]
   clear hz hq6
   go_wp2_with fail
   go_meet
   case rel => exact ⟨_, _, HN6.out.more (by omega), HQ5.out⟩
 case rest =>
 obtain ⟨d, x, hm6, hg6⟩ := hcut
 have HM6 := Lib.hid hm6
 have HQ6 := Lib.hid hg6
 clear hm6 hg6 HM5 HN6 HQ5 hq6
 obtain ⟨k0, k1, k2, k3, k4, k5, k6, k7, k8, k9, k10, k11, k12⟩ := HM6.out.rx.cs
 have hma9 := HM6.out.ma
 have HMA9 := Lib.hid (HWL.out.ma.trans hma9)
 have HM9 := Lib.hid hma9.mv
 have hbV : b < w2.heap.size := HWB.out.2
 have hVr : w2.heap.size ≤ wr.heap.size := HWL.out.ma.mv.size
 obtain ⟨A7, c7, w7, hrun, hkr7, hbel, hkeep, hsz7, hown7⟩ := KRr.append (HWL.out.kr.mv HM9.out hbV) (W := wr) (fun k hk => (HWL.out.kr.lt k hk).2) d x (HM6.out.rep.mono (fun k hk _ => hk.1)) hVr HM9.out.size (by have := HWL.out.dl; omega) wc.heap.size rfl
 rw [HWL.out.dl] at hrun hkr7 hown7
 have HRUN := Lib.hid hrun
 have HKR7 := Lib.hid hkr7
 have HKEEP := Lib.hid hkeep
 have HBEL := Lib.hid hbel
 have HSZ7 := Lib.hid hsz7
 clear hma9 hrun hkr7 hkeep hbel hsz7 hown7 hbV hVr
 go_wp2_with (first | (at_builtin; refine wpList_append_run (s := .tmp 54) (x := .tmp 56) HRUN.out rfl rfl rfl rfl rfl ?_))
 have hmW := HMA9.out.mv
 have hown : ∀ k9, (Value.slice A4 n c4).ownBlock = some k9 → w2.heap.size ≤ k9 := fun k9 e => (HWL.out.kr.lt k9 e).1
 have hm7 := hmW.grow HWB.out.2 (Nat.le_refl _) HBEL.out HKEEP.out hown HSZ7.out
 refine ⟨⟨n + 1, A7, c7, ds ++ [d], acc ++ [x], rfl, rfl, ⟨by simp [HWL.out.dl], by simp [HWL.out.al], by have := HNL.out; omega, (HMA9.out.keep hm7 (fun k9 h9 => HKEEP.out k9 (Nat.lt_of_lt_of_le h9 hmW.size) (fun e => by have := hown k9 e; omega))).more (by omega), HKR7.out, fun y hy => ?_⟩⟩, ?_⟩
 ·rcases List.mem_append.1 hy with h1 | h1
  ·exact HWL.out.gw y h1
  ·rw [List.mem_singleton.1 h1]; exact HQ6.out
 ·simp only [toM]; have := HNL.out; omega
end Go.Proofs.YtnpenepdechkjaaGreatDoor

/- The law of built rules walked. -/
namespace Go.Proofs.YtnpenepdechkjaaGreatDoor
open Go Go.RowKit

theorem GW.gr {B : Nat} {x : Rl} (h : GW B x) (hB : B ≤ 100000) : GR x := h.gq.gr (by have := h.iz; omega) (by have := h.dz; omega)
/-- Rules that lie in memory. -/
def RO (X : World) (A : Option Addr) (n : Nat) (v : List Rl) : Prop := n = v.length ∧ n ≤ 4 ∧ (∀ x ∈ v, GW 121 x) ∧ ∃ P, RW X P A n v
theorem RO.ext {X X' : World} {A : Option Addr} {n : Nat} {v : List Rl} (h : RO X A n v) (hx : Ext X X') : RO X' A n v := by
 obtain ⟨h1, h2, h3, P, h4⟩ := h
 exact ⟨h1, h2, h3, P, h4.ext hx⟩
theorem WlPost.ro {w X : World} {B : Nat} {e : Ending} (h : WlPost w B e X) (hB : B ≤ 121) : ∃ A n c v, e = .returned (.slice A n c) ∧ RO X A n v ∧ Ext w X := by
 obtain ⟨A, c, v, he, hrw, hl, hg, hx⟩ := h
 exact ⟨A, v.length, c, v, he, ⟨rfl, hl, fun x hx => ⟨(hg x hx).gq, Nat.le_trans (hg x hx).iz hB, Nat.le_trans (hg x hx).dz hB⟩, _, hrw⟩, hx⟩
end Go.Proofs.YtnpenepdechkjaaGreatDoor

/- The law of Print walked. -/
namespace Go.Proofs.YtnpenepdechkjaaGreatDoor
open Go Go.RowKit

set_option maxHeartbeats 2000000 in
set_option maxRecDepth 100000 in
theorem prints_any (A : Option Addr) (c : Nat) (l : List Int) (w : World) (hc : l.length ≤ c) (hc2 : c ≤ 9223372036854775807) (hb : ∀ n ∈ l, -9223372036854775808 ≤ n ∧ n ≤ 9223372036854775807) (h : SL icf 1 w A l.length l) (hE : EnvP w) :
  Calls Tryz.prog 5 #[.slice A l.length c] w (BQ2 true w) := by
 have HE := Lib.hid hE
 have HLV := Lib.hid (fun X (hX : Ext w X) => lives_any X (hE.ext hX))
 have HMK := Lib.hid (make_any A c l w hb hc hc2 h)
 have HWE := Lib.hid (fun X (hX : Ext w X) => well_any A c l X hb hc hc2 (h.ext hX))
 have HPR := Lib.hid (fun A n c v (J : ByteArray) X (hX : Ext w X) (ho : RO X A n v) (hJ : J = bs (printL v)) => (show Calls Tryz.prog 23 #[.slice A n c] X (fun e X' => e = .returned (.string J) ∧ Ext X X') from by
  obtain ⟨h1, h2, h3, P, h4⟩ := ho
  subst h1
  have h9 := pprint_any P A c v X (by omega) (fun r hr => (h3 r hr).gr (by decide)) h4 (hE.2.ext hX)
  unfold StrPost at h9
  rw [hJ]; exact h9))
 have HRP := Lib.hid (fun A n c v (J : ByteArray) X (hX : Ext w X) (ho : RO X A n v) (hJ : J = bs (printL v)) => (show Calls Tryz.prog 24 #[.slice A n c] X (fun e X' => e = .returned (.string J) ∧ Ext X X') from by
  obtain ⟨h1, h2, h3, P, h4⟩ := ho
  subst h1
  have h9 := rprint24_any P A c v X (by omega) (fun r hr => (h3 r hr).gq.grp (by have := (h3 r hr).iz; omega) (by have := (h3 r hr).dz; omega)) h4 (hE.2.ext hX)
  unfold StrPost at h9
  rw [hJ]; exact h9))
 clear h hb hE
 go_enter Tryz.func5, Tryz.ntmps5
 go_wp2_with fail
 refine (HMK.out).mono ?_
 rintro e w1 hp1
 obtain ⟨A1, n1, c1, v1, rfl, ho1, hx1⟩ := hp1.ro (by decide)
 have HO1 := Lib.hid ho1
 have HX1 := Lib.hid hx1
 clear hp1 ho1 hx1 HMK
 go_wp2_with fail
 refine (HWE.out _ HX1.out).mono ?_
 rintro e w2 hp2
 obtain ⟨A2, n2, c2, v2, rfl, ho2, hx2⟩ := hp2.ro (by decide)
 have HO2 := Lib.hid ho2
 have HO3 := Lib.hid (HO1.out.ext hx2)
 have HX2 := Lib.hid (HX1.out.trans hx2)
 clear hp2 ho2 hx2 HWE HO1 HX1
 obtain ⟨J1, hJ1⟩ : ∃ J, J = bs (printL v1) := ⟨_, rfl⟩
 obtain ⟨J2, hJ2⟩ : ∃ J, J = bs (printL v2) := ⟨_, rfl⟩
 have HJ1 := Lib.hid hJ1
 have HJ2 := Lib.hid hJ2
 have t1 : (J1.toList == J1.toList) = true := beq_self_eq_true _
 have t2 : (J2.toList == J2.toList) = true := beq_self_eq_true _
 clear hJ1 hJ2
 go_wp2_with fail
 refine (HPR.out A1 n1 c1 v1 J1 _ HX2.out HO3.out HJ1.out).mono ?_
 rintro e w3 ⟨rfl, hx3⟩
 have HX3 := Lib.hid hx3
 clear hx3
 go_wp2_with fail
 refine (HRP.out A1 n1 c1 v1 J1 _ (HX2.out.trans HX3.out) (HO3.out.ext HX3.out) HJ1.out).mono ?_
 rintro e w4 ⟨rfl, hx4⟩
 have HX4 := Lib.hid (HX3.out.trans hx4)
 clear hx4
 go_wp2_with fail
 refine (HPR.out A2 n2 c2 v2 J2 _ (HX2.out.trans HX4.out) (HO2.out.ext HX4.out) HJ2.out).mono ?_
 rintro e w5 ⟨rfl, hx5⟩
 have HX5 := Lib.hid (HX4.out.trans hx5)
 clear hx5
 go_wp2_with fail
 refine (HRP.out A2 n2 c2 v2 J2 _ (HX2.out.trans HX5.out) (HO2.out.ext HX5.out) HJ2.out).mono ?_
 rintro e w6 ⟨rfl, hx6⟩
 have HX6 := Lib.hid (HX5.out.trans hx6)
 clear hx6
 go_wp2_with fail
 refine (HLV.out _ (HX2.out.trans HX6.out)).mono ?_
 rintro e w7 ⟨rfl, hx7⟩
 have HX7 := Lib.hid hx7
 clear hx7
 go_wp2_with fail
 go_ret
 exact ⟨rfl, (HX2.out.trans HX6.out).trans HX7.out⟩
end Go.Proofs.YtnpenepdechkjaaGreatDoor
