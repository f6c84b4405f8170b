/- The Maker's Any. -/
import Derived.Test.YtnpenepdechkjaaGreatDoorKc
import Derived.Test.YtnpenepdechkjaaGreatDoorKj
namespace Go.Proofs.YtnpenepdechkjaaGreatDoor
open Go Go.RowKit

/-- Nothing but the blocks b and g has turned. -/
structure Kp (b g : Nat) (W W' : World) : Prop where
  size : W.heap.size ≤ W'.heap.size
  keep : ∀ k, k ≠ b → k ≠ g → k < W.heap.size → W'.heap[k]? = W.heap[k]?
theorem Kp.refl (b g : Nat) (W : World) : Kp b g W W := ⟨Nat.le_refl _, fun _ _ _ _ => rfl⟩
theorem Kp.of_mv {b : Nat} (g : Nat) {W W' : World} (h : Mv b W W') : Kp b g W W' := ⟨h.size, fun k h1 _ h3 => h.keep k h1 h3⟩
theorem Kp.of_ext {b : Nat} (g : Nat) {W W' : World} (h : Ext W W') : Kp b g W W' := Kp.of_mv g (Mv.of_ext h)
theorem Kp.trans {b g : Nat} {W W' W'' : World} (h : Kp b g W W') (k : Kp b g W' W'') : Kp b g W W'' := ⟨Nat.le_trans h.size k.size, fun j h1 h2 h3 => (k.keep j h1 h2 (Nat.lt_of_lt_of_le h3 h.size)).trans (h.keep j h1 h2 h3)⟩
theorem Kp.set {b g : Nat} {W W' : World} (h : Kp b g W W') (i : Nat) (u : Value) : Kp b g W (W'.setCell ⟨g, i, none⟩ u) := ⟨by simpa using h.size, fun k h1 h2 h3 => (heap_setCell_other W' ⟨g, i, none⟩ k u h2).trans (h.keep k h1 h2 h3)⟩
theorem Kp.set4 {b g : Nat} {W : World} (x y z t : Value) : Kp b g W ((((W.setCell ⟨g, 0, none⟩ x).setCell ⟨g, 1, none⟩ y).setCell ⟨g, 2, none⟩ z).setCell ⟨g, 3, none⟩ t) := ((((Kp.refl b g W).set 0 x).set 1 y).set 2 z).set 3 t
theorem SR.kp {X X' : World} {b g g' : Nat} {ss : List (List UInt8)} (h : SR X g ss) (hm : Kp b g' X X') (hg : g ≠ b) (hg' : g ≠ g') : SR X' g ss := ⟨Nat.lt_of_lt_of_le h.lt hm.size, fun j s hs => by rw [World.cell?_of_block (a := ⟨g, j, none⟩) (hm.keep g hg hg' h.lt)]; exact h.at_ j s hs⟩
theorem NX.kp {W W' : World} {b g g' : Nat} {k n : Int} {S : ByteArray} {v : Value} (h : NX W g k n S v) (hm : Kp b g' W W') (hg : g ≠ b) (hg' : g ≠ g') : NX W' g k n S v := (hm.keep g hg hg' (lt_of_block h)).trans h
/-- Sizes. -/
def FN : Nat → Nat
  | 0 => 2
  | d + 1 => 3 * FN d + 4
def ZN : Nat → Nat
  | 0 => 1
  | d + 1 => 1 + 3 * ZN d
def GAny (d : Nat) (t : Tr) : Prop := GD (2 * d) t ∧ tsz t ≤ ZN d
theorem FN_pos (d : Nat) : 2 ≤ FN d := by cases d <;> simp [FN]
theorem ZN_pos (d : Nat) : 1 ≤ ZN d := by cases d <;> simp [ZN]
theorem GD.una2 {B : Nat} {s : List UInt8} {a : Tr} (h : s = wNot ∨ s = wMinus) (ha : GD B a) : GD (B + 2) (.nd 5 0 s [a]) := .una (B + 1) s a h (fun _ => by omega) (ha.mono (by unfold bud; split <;> omega))
theorem GD.bin2 {B : Nat} {s : List UInt8} {a b : Tr} (h : 1 ≤ lvOf s) (ha : GD B a) (hb : GD B b) : GD (B + 2) (.nd 6 0 s [a, b]) := .bin (B + 2) s a b h (fun _ => by omega) (fun _ => by omega) (ha.mono (by unfold bud; split <;> omega)) (hb.mono (by unfold bud; split <;> omega))
theorem GD.aft2 {B : Nat} {k : Int} {s : List UInt8} {a b : Tr} (hk : k = 7 ∨ k = 8) (h : s ∈ units) (ha : GD B a) (hb : GD B b) : GD (B + 2) (.nd k 0 s [a, b]) := .aft (B + 2) k s a b hk h (fun _ => by omega) (fun _ => by omega) (ha.mono (by unfold bud; split <;> omega)) (hb.mono (by unfold bud; split <;> omega))
theorem GD.ite2 {B : Nat} {a b c : Tr} (ha : GD B a) (hb : GD B b) (hc : GD B c) : GD (B + 2) (.nd 9 0 [] [a, b, c]) := .ite (B + 1) a b c (ha.mono (by omega)) (hb.mono (by omega)) (hc.mono (by omega))
theorem GD.call12 {B : Nat} {s : List UInt8} {a : Tr} (h : s ∈ functions) (hs : argsN s = 1) (ha : GD B a) : GD (B + 2) (.nd 10 0 s [a]) := .call1 (B + 1) s a h hs (ha.mono (by omega))
theorem GD.call22 {B : Nat} {s : List UInt8} {a b : Tr} (h : s ∈ functions) (hs : argsN s = 2) (ha : GD B a) (hb : GD B b) : GD (B + 2) (.nd 10 0 s [a, b]) := .call2 (B + 1) s a b h hs (ha.mono (by omega)) (hb.mono (by omega))
theorem GAny.up {d : Nat} {k n : Int} {s : List UInt8} {ks : List Tr} (hd : 1 ≤ d) (h : GD (2 * (d - 1) + 2) (.nd k n s ks)) (hz : tszs ks ≤ 3 * ZN (d - 1)) : GAny d (.nd k n s ks) := by
  obtain ⟨e, rfl⟩ : ∃ e, d = e + 1 := ⟨d - 1, by omega⟩
  rw [show e + 1 - 1 = e by omega] at h hz
  exact ⟨by rw [show 2 * (e + 1) = 2 * e + 2 by omega]; exact h, by simp only [tsz, ZN]; omega⟩
theorem GAny.leaf {d : Nat} {k n : Int} {s : List UInt8} (h : GD (2 * d) (.nd k n s [])) : GAny d (.nd k n s []) := ⟨h, by have := ZN_pos d; simp [tsz, tszs]; omega⟩
theorem FN_up {d : Nat} (h : 1 ≤ d) : FN d = 3 * FN (d - 1) + 4 := by
  obtain ⟨e, rfl⟩ : ∃ e, d = e + 1 := ⟨d - 1, by omega⟩
  rfl
theorem HT.kids1 {W X : World} {d : Nd} {t : Tr} (h : HT W X d t) : ∀ (i : Nat) (h : Nd) (t' : Tr), [d][i]? = some h → [t][i]? = some t' → HT W X h t' := fun i h' t' h1 h2 => by
  have hi : i < 1 := (List.getElem?_eq_some_iff.1 h1).1
  obtain rfl : i = 0 := by omega
  simp only [List.getElem?_cons_zero, Option.some.injEq] at h1 h2
  subst h1 h2
  exact h
theorem HT.kids2 {W X : World} {d d2 : Nd} {t t2 : Tr} (h : HT W X d t) (h2 : HT W X d2 t2) : ∀ (i : Nat) (h : Nd) (t' : Tr), [d, d2][i]? = some h → [t, t2][i]? = some t' → HT W X h t' := fun i h' t' g1 g2 => by
  have hi : i < 2 := (List.getElem?_eq_some_iff.1 g1).1
  rcases (by omega : i = 0 ∨ i = 1) with rfl | rfl
  · simp only [List.getElem?_cons_zero, Option.some.injEq] at g1 g2
    subst g1 g2
    exact h
  · simp only [List.getElem?_cons_succ, List.getElem?_cons_zero, Option.some.injEq] at g1 g2
    subst g1 g2
    exact h2
theorem HT.kids3 {W X : World} {d d2 d3 : Nd} {t t2 t3 : Tr} (h : HT W X d t) (h2 : HT W X d2 t2) (h3 : HT W X d3 t3) : ∀ (i : Nat) (h : Nd) (t' : Tr), [d, d2, d3][i]? = some h → [t, t2, t3][i]? = some t' → HT W X h t' := fun i h' t' g1 g2 => by
  have hi : i < 3 := (List.getElem?_eq_some_iff.1 g1).1
  rcases (by omega : i = 0 ∨ i = 1 ∨ i = 2) with rfl | rfl | rfl
  · simp only [List.getElem?_cons_zero, Option.some.injEq] at g1 g2
    subst g1 g2
    exact h
  · simp only [List.getElem?_cons_succ, List.getElem?_cons_zero, Option.some.injEq] at g1 g2
    subst g1 g2
    exact h2
  · simp only [List.getElem?_cons_succ, List.getElem?_cons_zero, Option.some.injEq] at g1 g2
    subst g1 g2
    exact h3
def opl : List (List UInt8) := [wOr, wAnd, wLt, wLe, wEq, wNe, wGt, wGe, wPlus, wMinus, wStar]
theorem opl_lv : ∀ s ∈ opl, 1 ≤ lvOf s := by decide
theorem AS.nextI {W X : World} {b : Nat} {A : Option Addr} {c : Nat} {l : List Int} {hi : Nat} (h : AS W b A c l hi X) (ha : hi + 1 ≤ 1000000) (m : Nat) (mi : Int) (hmi : mi = m) (hm : 1 ≤ m) (hm2 : m ≤ 2147483648) :
    Calls Tryz.prog 44 #[.pointer (some ⟨b, 0, none⟩), .int .i64 mi] X (fun e X' => ∃ k : Nat, e = .returned (.int .i64 k) ∧ k < m ∧ AS W b A c l (hi + 1) X' ∧ Mv b X X') := by
  rw [hmi]; exact h.next ha m hm hm2
set_option maxHeartbeats 2000000 in
set_option maxRecDepth 100000 in
theorem any_any : ∀ (D deep : Nat) (W : World) (b : Nat) (A : Option Addr) (c : Nat) (l : List Int) (a : Nat), deep < D → MB W b A c l a → (0 < l.length → ∀ x, A = some x → x.block < W.heap.size) → deep ≤ 7 → a + FN deep ≤ 1000000 →
    Calls Tryz.prog 46 #[.pointer (some ⟨b, 0, none⟩), .int .i64 deep] W (MPost W b A c l (a + FN deep) (GAny deep)) := by
  intro D
  induction D with
  | zero => intro deep W b A c l a h; omega
  | succ D ih =>
    intro deep W b A c l a hDD hmb hA hd ha
    have ha0 := AS.begin hmb hA
    have hbW := hmb.lt
    have hFP := FN_pos deep
    have HSUB := Lib.hid (show 1 ≤ deep → ∀ hi X, AS W b A c l hi X → hi + FN (deep - 1) ≤ 1000000 → Calls Tryz.prog 46 #[.pointer (some ⟨b, 0, none⟩), .int .i64 ((deep : Int) - 1)] X (MPost X b A c l (hi + FN (deep - 1)) (GAny (deep - 1))) from fun h1 hi X hX hh => by
      obtain ⟨a', h2, h3⟩ := hX.mb
      rw [show (deep : Int) - 1 = ((deep - 1 : Nat) : Int) by omega]
      refine (ih (deep - 1) X b A c l a' (by omega) h3 (fun h0 x hx => by have := hA h0 x hx; have := hX.sz; omega) (by omega) (by omega)).mono ?_
      rintro e X' ⟨d, t, he, hr, hg, ⟨a9, h8, h9⟩, hm⟩
      exact ⟨d, t, he, hr, hg, ⟨a9, by omega, h9⟩, hm⟩)
    have hdI : (deep : Int) ≤ 7 := by omega
    clear ih
    go_enter Tryz.func46, Tryz.ntmps46
    go_upto_region 1 with (fail)
    have HA0 := Lib.hid ha0
    clear ha0 hmb
    generalize W.alloc (.cells #[.int .i64 0, .int .i64 0, .string ⟨#[]⟩, .slice none 0 0] 31) = w1 at *
    go_upto_region 2 with (first | (go_at_call 44; refine (HA0.out.nextI (by omega) 12 12 rfl (by decide) (by decide)).mono ?_; rintro e w2 ⟨k0, rfl, hk0, ha1, hm1⟩))
    have HA1 := Lib.hid ha1
    have hkI : (k0 : Int) < 12 := by omega
    clear ha1 hm1
    go_upto_if 16 with (first | (go_at_call 95; refine (HA1.out.done deep (by omega)).mono ?_; rintro e w3 ⟨v, rfl, hv, hx⟩; have HV := Lib.hid hv; have HX3 := Lib.hid hx; clear hv hx))
    go_cut [5] (fun s5 wx => ∃ kk : Int, s5 = .int .i64 kk ∧ ((kk = 0 ∨ kk = 1 ∨ kk = 2 ∨ kk = 3) ∨ (1 ≤ deep ∧ (kk = 4 ∨ (kk = 5 ∨ kk = 6) ∨ kk = 7 ∨ kk = 8 ∨ kk = 9 ∨ (10 ≤ kk ∧ kk ≤ 11)))) ∧ Ext w2 wx)
    case first =>
      cases v
      case true =>
        go_wp2_with fail
        go_meet
        case rel => exact ⟨_, rfl, by omega, HX3.out⟩
      case false =>
        have h9 : deep ≠ 0 := fun h => Bool.noConfusion (HV.out h)
        clear HV
        go_wp2_with fail
        go_meet
        case rel => exact ⟨_, rfl, by omega, HX3.out⟩
    case rest =>
      obtain ⟨kk, rfl, hkk, hxc⟩ := hcut
      have HA := Lib.hid (HA1.out.ext hxc)
      clear hxc HA0 HA1 hkI hk0
      rcases hkk with (rfl | rfl | rfl | rfl) | ⟨h1, rfl | h56 | rfl | rfl | rfl | hk⟩
      · go_wp2_with (first | (go_at_call 44; refine (HA.out.nextI (by omega) 2147483648 2147483648 rfl (by decide) (by decide)).mono ?_; rintro e u1 ⟨k1, rfl, hk1, ha1, hm1⟩; have HA1 := Lib.hid ha1; obtain ⟨_, z0, z1, z2, z3, z4, z5, z6, z7⟩ := ha1.nx.nb; clear ha1))
        refine bodyPost_ret (v := .agg #[.int .i64 1, .int .i64 k1, .string ⟨#[]⟩, .slice none 0 0]) (by simp [results, Tryz.results46, go_sem, *]) rfl ?_
        exact HA1.out.fin (by omega) ⟨1, k1, ⟨#[]⟩, none, 0, 0⟩ (.nd 1 k1 [] []) (HT.leaf _ _ 1 k1 []) (.leaf (.num _ _ (by omega)))
      · go_wp2_with (first | (go_at_call 44; refine (HA.out.nextI (by omega) 3652059 3652059 rfl (by decide) (by decide)).mono ?_; rintro e u1 ⟨k1, rfl, hk1, ha1, hm1⟩; have HA1 := Lib.hid ha1; obtain ⟨_, z0, z1, z2, z3, z4, z5, z6, z7⟩ := ha1.nx.nb; clear ha1))
        refine bodyPost_ret (v := .agg #[.int .i64 3, .int .i64 k1, .string ⟨#[]⟩, .slice none 0 0]) (by simp [results, Tryz.results46, go_sem, *]) rfl ?_
        exact HA1.out.fin (by omega) ⟨3, k1, ⟨#[]⟩, none, 0, 0⟩ (.nd 3 k1 [] []) (HT.leaf _ _ 3 k1 []) (.leaf (.day _ _ (by omega)))
      · go_wp2_with (first | (go_at_call 44; refine (HA.out.nextI (by omega) 2 2 rfl (by decide) (by decide)).mono ?_; rintro e u1 ⟨k1, rfl, hk1, ha1, hm1⟩; have HA1 := Lib.hid ha1; obtain ⟨_, z0, z1, z2, z3, z4, z5, z6, z7⟩ := ha1.nx.nb; clear ha1))
        refine bodyPost_ret (v := .agg #[.int .i64 2, .int .i64 k1, .string ⟨#[]⟩, .slice none 0 0]) (by simp [results, Tryz.results46, go_sem, *]) rfl ?_
        exact HA1.out.fin (by omega) ⟨2, k1, ⟨#[]⟩, none, 0, 0⟩ (.nd 2 k1 [] []) (HT.leaf _ _ 2 k1 []) (.leaf (.bool _ _ (by omega)))
      · go_upto_region 12 with (fail)
        have hx2 : Ext wc (wc.alloc (.cells #[.string ⟨#[100, 97, 121]⟩, .string ⟨#[115, 101, 114, 118, 101, 100]⟩, .string ⟨#[101, 120, 116, 114, 97]⟩, .string ⟨#[98, 121]⟩, .string ⟨#[116, 111]⟩, .string ⟨#[99, 111, 117, 114, 116]⟩, .string ⟨#[97, 109, 111, 117, 110, 116]⟩] 9)) := (Ext.refl _).alloc _
        have hsr := SR.new wc [wDay, wServed, wExtra, wBy, wTo, wCourt, wAmount] #[.string ⟨#[100, 97, 121]⟩, .string ⟨#[115, 101, 114, 118, 101, 100]⟩, .string ⟨#[101, 120, 116, 114, 97]⟩, .string ⟨#[98, 121]⟩, .string ⟨#[116, 111]⟩, .string ⟨#[99, 111, 117, 114, 116]⟩, .string ⟨#[97, 109, 111, 117, 110, 116]⟩] rfl
        have hgb : wc.heap.size ≠ b := by have := HA.out.sz; omega
        have HA2 := Lib.hid (HA.out.ext hx2)
        go_wp2_with (first
          | (go_at_call 44; refine (HA2.out.nextI (by omega) 7 7 rfl (by decide) (by decide)).mono ?_; rintro e u1 ⟨k1, rfl, hk1, ha1, hm1⟩; have HA1 := Lib.hid ha1; have hk1I : (k1 : Int) < 7 := by omega
             obtain ⟨s1, hs1⟩ : ∃ s, (fields : List (List UInt8))[k1]? = some s := ⟨_, List.getElem?_eq_getElem (by simpa [fields] using hk1)⟩
             have M1 := Lib.hid (List.mem_of_getElem? hs1)
             have q9 := (hsr.mv hm1 hgb).at_ _ _ hs1
             obtain ⟨S1, hS1⟩ : ∃ S, S = bs s1 := ⟨_, rfl⟩
             rw [← hS1] at q9
             have ES1 := Lib.hid hS1
             clear hS1 hs1 hsr ha1 hm1)
          | (go_at_call 96; refine (mnode_any _ _ _ _ _ _).mono ?_; rintro e u2 ⟨rfl, hx3⟩; have HA3 := Lib.hid (HA1.out.ext hx3); obtain ⟨_, z0, z1, z2, z3, z4, z5, z6, z7⟩ := HA3.out.nx.nb))
        refine bodyPost_ret (v := .agg #[.int .i64 4, .int .i64 0, .string S1, .slice none 0 0]) (by simp [results, Tryz.results46, go_sem, *]) rfl ?_
        exact HA3.out.fin (by omega) ⟨4, 0, S1, none, 0, 0⟩ (.nd 4 0 s1 []) (by rw [ES1.out]; exact HT.leaf _ _ 4 0 s1) (.leaf (.field _ _ M1.out))
      · have h1I : (1 : Int) ≤ (deep : Int) := by omega
        have hwd : IntKind.i64.wrap ((deep : Int) - 1) = (deep : Int) - 1 := IntWalk.i64_in _ (by omega)
        go_upto_region 14 with (fail)
        refine wp_region_E (fun _ => True) (fun X => Kp b W.heap.size wc X) (fun _ => true) (by kernel_rfl) ?_
        obtain ⟨u1, hu9, hx9⟩ : ∃ x, wc.drew = x ∧ Ext wc x := ⟨_, rfl, (Ext.refl _).drew⟩
        rw [hu9]
        clear hu9
        have HA2 := Lib.hid (HA.out.ext hx9)
        refine wpE_strong (T' := fun X => Kp b W.heap.size u1 X) (fun _ h9 => (Kp.of_ext _ hx9).trans h9) _ _ _ _ ?_
        clear hx9
        refine tkA (i := 1) (d := some 46) (v := ?_) (Kp.refl _ _ _) ?_ ?_; rotate_left
        · (intro w9 hT9; clear hT9; go_simp; try with_reducible rfl)
        (try simp only [Act.put, sA, sZ, sS])
        refine tkA (i := 5) (d := some 50) (v := ?_) (Kp.refl _ _ _) ?_ ?_; rotate_left
        · (intro w9 hT9; clear hT9; go_simp; try with_reducible rfl)
        (try simp only [Act.put, sA, sZ, sS])
        refine tkA (i := 6) (d := some 51) (v := ?_) (Kp.refl _ _ _) ?_ ?_; rotate_left
        · (intro w9 hT9; clear hT9; go_simp; try with_reducible rfl)
        (try simp only [Act.put, sA, sZ, sS])
        refine tkA (i := 7) (d := some 52) (v := ?_) (Kp.refl _ _ _) ?_ ?_; rotate_left
        · (intro w9 hT9; clear hT9; go_simp; try with_reducible rfl)
        (try simp only [Act.put, sA, sZ, sS])
        refine two (i := 0) (j := 2) (fun K hK => ?_) (fun K hK => ?_)
        · skip
          simp only [List.getElem_toArray, List.getElem_cons_zero]
          go_simp
          have hx4 : Ext u1 (u1.alloc (.cells #[.string ⟨#[110, 111, 116]⟩, .string ⟨#[45]⟩] 9)) := (Ext.refl _).alloc _
          have hn9 := SR.new u1 [wNot, wMinus] #[.string ⟨#[110, 111, 116]⟩, .string ⟨#[45]⟩] rfl
          obtain ⟨u3, hu9⟩ : ∃ x, x = u1.alloc (.cells #[.string ⟨#[110, 111, 116]⟩, .string ⟨#[45]⟩] 9) := ⟨_, rfl⟩
          obtain ⟨g5, hg5⟩ : ∃ x, x = u1.heap.size := ⟨_, rfl⟩
          have hg5b : g5 ≠ b := by have := HA2.out.sz; omega
          have hg5W : g5 ≠ W.heap.size := by have := HA2.out.sz; omega
          rw [← hu9, ← hg5] at hn9
          rw [← hu9] at hx4 ⊢
          rw [← hg5]
          have HA6 := Lib.hid (HA2.out.ext hx4)
          have HN7 := Lib.hid hn9
          clear hu9 hn9 hg5
          refine NextE.go (Z := Kp b W.heap.size) (u := u1) hK (Kp.of_ext _ hx4) (fun _ h9 => (Kp.of_ext _ hx4).trans h9) ?_
          clear hK K
          (try simp only [Act.put, sA, sZ, sS])
          try clear hx4
          refine one (i := 2) (fun K hK => ?_)
          simp only [List.getElem_toArray, List.getElem_cons_succ, List.getElem_cons_zero]
          go_simp
          go_at_call 44
          refine (HA6.out.nextI (by have := FN_up h1; omega) 2 2 rfl (by decide) (by decide)).mono ?_
          rintro e u9 ⟨k8, rfl, hk8, ha9, hm10⟩
          have HA11 := Lib.hid ha9
          clear ha9
          simp only []
          have hk8I : (k8 : Int) < 2 := by omega
          have hk8J : (0 : Int) ≤ (k8 : Int) := Int.natCast_nonneg _
          have HSR12 := Lib.hid (HN7.out.mv hm10 hg5b)
          obtain ⟨s13, hs13⟩ : ∃ s, ([wNot, wMinus] : List (List UInt8))[k8]? = some s := ⟨_, List.getElem?_eq_getElem (by simpa using hk8)⟩
          have Ms13 := Lib.hid (List.mem_of_getElem? hs13)
          have Gs13 := Lib.hid hs13
          obtain ⟨S14, hS14⟩ : ∃ S, S = bs s13 := ⟨_, rfl⟩
          have ES14 := Lib.hid hS14
          clear hs13 hS14
          refine NextE.go (Z := Kp b W.heap.size) (u := u3) hK (Kp.of_mv _ hm10) (fun _ h9 => (Kp.of_mv _ hm10).trans h9) ?_
          clear hK K
          (try simp only [Act.put, sA, sZ, sS])
          try clear hm10
          refine tkA (i := 3) (d := some 48) (v := ?_) (Kp.refl _ _ _) ?_ ?_; rotate_left
          · (intro w9 hT9; clear hT9; go_simp; try with_reducible rfl)
          (try simp only [Act.put, sA, sZ, sS])
          refine tkA (i := 4) (d := some 49) (v := ?_) (Kp.refl _ _ _) ?_ ?_; rotate_left
          · (intro w9 hT9; have q9 := (HSR12.out.kp hT9 hg5b hg5W).at_ _ _ Gs13.out; rw [← ES14.out] at q9; go_simp; try with_reducible rfl)
          (try simp only [Act.put, sA, sZ, sS])
          refine one (i := 8) (fun K hK => ?_)
          simp only [List.getElem_toArray, List.getElem_cons_succ, List.getElem_cons_zero]
          go_simp
          go_at_call 46
          refine (HSUB.out h1 _ _ HA11.out (by have := FN_up h1; omega)).mono ?_
          rintro e u15 hp9
          obtain ⟨d18, t19, rfl, hr9, hg9, ha9, hm16⟩ := HA11.out.sub hp9
          have HA17 := Lib.hid ha9
          have HR20 := Lib.hid hr9
          have HGt19 := Lib.hid hg9
          clear hp9 ha9 hr9 hg9
          simp only []
          have HSR21 := Lib.hid (HSR12.out.mv hm16 hg5b)
          refine NextE.go (Z := Kp b W.heap.size) (u := u9) hK (Kp.of_mv _ hm16) (fun _ h9 => (Kp.of_mv _ hm16).trans h9) ?_
          clear hK K
          (try simp only [Act.put, sA, sZ, sS])
          try clear hm16
          refine one (i := 9) (fun K hK => ?_)
          simp only [List.getElem_toArray, List.getElem_cons_succ, List.getElem_cons_zero]
          go_simp
          have hx23 : Ext u15 (u15.alloc (.cells #[.int .i64 d18.k, .int .i64 d18.n, .string d18.s, .slice d18.A d18.m d18.c] 31)) := (Ext.refl _).alloc _
          have hn9 : ∀ (k n : Int) (s : List UInt8), HT W (u15.alloc (.cells #[.int .i64 d18.k, .int .i64 d18.n, .string d18.s, .slice d18.A d18.m d18.c] 31)) ⟨k, n, bs s, some ⟨u15.heap.size, 0, none⟩, 1, 1⟩ (.nd k n s [t19]) := fun k n s => HT.node HA17.out.sz k n s [d18] [t19] #[.int .i64 d18.k, .int .i64 d18.n, .string d18.s, .slice d18.A d18.m d18.c] 1 rfl rfl (HT.kids1 HR20.out)
          obtain ⟨u22, hu9⟩ : ∃ x, x = u15.alloc (.cells #[.int .i64 d18.k, .int .i64 d18.n, .string d18.s, .slice d18.A d18.m d18.c] 31) := ⟨_, rfl⟩
          obtain ⟨g24, hg24⟩ : ∃ x, x = u15.heap.size := ⟨_, rfl⟩
          have hg24b : g24 ≠ b := by have := HA17.out.sz; omega
          have hg24W : g24 ≠ W.heap.size := by have := HA17.out.sz; omega
          rw [← hu9, ← hg24] at hn9
          rw [← hu9] at hx23 ⊢
          rw [← hg24]
          have HA25 := Lib.hid (HA17.out.ext hx23)
          have HN26 := Lib.hid hn9
          clear hu9 hn9 hg24
          have HSR27 := Lib.hid (HSR21.out.mv (Mv.of_ext hx23) hg5b)
          have HHT28 := Lib.hid (HR20.out.mv (Mv.of_ext hx23) hbW)
          refine NextE.go (Z := Kp b W.heap.size) (u := u15) hK (Kp.of_ext _ hx23) (fun _ h9 => (Kp.of_ext _ hx23).trans h9) ?_
          clear hK K
          (try simp only [Act.put, sA, sZ, sS])
          try clear hx23
          refine one (i := 10) (fun K hK => ?_)
          simp only [List.getElem_toArray, List.getElem_cons_succ, List.getElem_cons_zero]
          go_simp
          go_at_call 96
          refine (mnode_any _ _ _ _ _ _).mono ?_
          rintro e u29 ⟨rfl, hx30⟩
          simp only []
          have HSR32 := Lib.hid (HSR27.out.mv (Mv.of_ext hx30) hg5b)
          have HHT33 := Lib.hid (HHT28.out.mv (Mv.of_ext hx30) hbW)
          have HRW34 := Lib.hid (fun k n s => (HN26.out k n s).mv (Mv.of_ext hx30) hbW)
          have HA31 := Lib.hid (HA25.out.ext hx30)
          refine NextE.go (Z := Kp b W.heap.size) (u := u22) hK (Kp.of_ext _ hx30) (fun _ h9 => (Kp.of_ext _ hx30).trans h9) ?_
          clear hK K
          (try simp only [Act.put, sA, sZ, sS])
          try clear hx30
          refine one (i := 11) (fun K hK => ?_)
          obtain ⟨_, z0, z1, z2, z3, z4, z5, z6, z7⟩ := HA31.out.nx.nb
          simp only [List.getElem_toArray, List.getElem_cons_succ, List.getElem_cons_zero]
          go_simp
          refine hK.out _ _ ⟨fun _ => trivial, Kp.set4 _ _ _ _⟩ (fun _ => ?_)
          clear hK K
          (try simp only [Act.put, sA, sZ, sS])
          refine wpE_done (by kernel_rfl) ?_ _
          go_wp2_with fail
          refine bodyPost_ret (v := .agg #[.int .i64 5, .int .i64 0, .string S14, .slice (some ⟨g24, 0, none⟩) 1 1]) (by simp [results, Tryz.results46, go_sem, *]) rfl ?_
          exact HA31.out.fin (by have := FN_up h1; omega) ⟨5, 0, S14, some ⟨g24, 0, none⟩, 1, 1⟩ (.nd 5 0 s13 [t19]) (by rw [ES14.out]; exact HRW34.out 5 0 s13) (.up h1 (.una2 (by have := Ms13.out; simpa using this) HGt19.out.1) (by have := HGt19.out.2; simp only [tszs]; omega))
        · skip
          simp only [List.getElem_toArray, List.getElem_cons_succ, List.getElem_cons_zero]
          go_simp
          go_at_call 44
          refine (HA2.out.nextI (by have := FN_up h1; omega) 2 2 rfl (by decide) (by decide)).mono ?_
          rintro e u36 ⟨k35, rfl, hk35, ha9, hm37⟩
          have HA38 := Lib.hid ha9
          clear ha9
          simp only []
          have hk35I : (k35 : Int) < 2 := by omega
          have hk35J : (0 : Int) ≤ (k35 : Int) := Int.natCast_nonneg _
          refine NextE.go (Z := Kp b W.heap.size) (u := u1) hK (Kp.of_mv _ hm37) (fun _ h9 => (Kp.of_mv _ hm37).trans h9) ?_
          clear hK K
          (try simp only [Act.put, sA, sZ, sS])
          try clear hm37
          refine two (i := 0) (j := 8) (fun K hK => ?_) (fun K hK => ?_)
          · skip
            simp only [List.getElem_toArray, List.getElem_cons_zero]
            go_simp
            have hx40 : Ext u36 (u36.alloc (.cells #[.string ⟨#[110, 111, 116]⟩, .string ⟨#[45]⟩] 9)) := (Ext.refl _).alloc _
            have hn9 := SR.new u36 [wNot, wMinus] #[.string ⟨#[110, 111, 116]⟩, .string ⟨#[45]⟩] rfl
            obtain ⟨u39, hu9⟩ : ∃ x, x = u36.alloc (.cells #[.string ⟨#[110, 111, 116]⟩, .string ⟨#[45]⟩] 9) := ⟨_, rfl⟩
            obtain ⟨g41, hg41⟩ : ∃ x, x = u36.heap.size := ⟨_, rfl⟩
            have hg41b : g41 ≠ b := by have := HA38.out.sz; omega
            have hg41W : g41 ≠ W.heap.size := by have := HA38.out.sz; omega
            rw [← hu9, ← hg41] at hn9
            rw [← hu9] at hx40 ⊢
            rw [← hg41]
            have HA42 := Lib.hid (HA38.out.ext hx40)
            have HN43 := Lib.hid hn9
            clear hu9 hn9 hg41
            obtain ⟨s44, hs44⟩ : ∃ s, ([wNot, wMinus] : List (List UInt8))[k35]? = some s := ⟨_, List.getElem?_eq_getElem (by simpa using hk35)⟩
            have Ms44 := Lib.hid (List.mem_of_getElem? hs44)
            have Gs44 := Lib.hid hs44
            obtain ⟨S45, hS45⟩ : ∃ S, S = bs s44 := ⟨_, rfl⟩
            have ES45 := Lib.hid hS45
            clear hs44 hS45
            refine NextE.go (Z := Kp b W.heap.size) (u := u36) hK (Kp.of_ext _ hx40) (fun _ h9 => (Kp.of_ext _ hx40).trans h9) ?_
            clear hK K
            (try simp only [Act.put, sA, sZ, sS])
            try clear hx40
            refine tkA (i := 3) (d := some 48) (v := ?_) (Kp.refl _ _ _) ?_ ?_; rotate_left
            · (intro w9 hT9; clear hT9; go_simp; try with_reducible rfl)
            (try simp only [Act.put, sA, sZ, sS])
            refine tkA (i := 4) (d := some 49) (v := ?_) (Kp.refl _ _ _) ?_ ?_; rotate_left
            · (intro w9 hT9; have q9 := (HN43.out.kp hT9 hg41b hg41W).at_ _ _ Gs44.out; rw [← ES45.out] at q9; go_simp; try with_reducible rfl)
            (try simp only [Act.put, sA, sZ, sS])
            refine one (i := 8) (fun K hK => ?_)
            simp only [List.getElem_toArray, List.getElem_cons_succ, List.getElem_cons_zero]
            go_simp
            go_at_call 46
            refine (HSUB.out h1 _ _ HA42.out (by have := FN_up h1; omega)).mono ?_
            rintro e u46 hp9
            obtain ⟨d49, t50, rfl, hr9, hg9, ha9, hm47⟩ := HA42.out.sub hp9
            have HA48 := Lib.hid ha9
            have HR51 := Lib.hid hr9
            have HGt50 := Lib.hid hg9
            clear hp9 ha9 hr9 hg9
            simp only []
            have HSR52 := Lib.hid (HN43.out.mv hm47 hg41b)
            refine NextE.go (Z := Kp b W.heap.size) (u := u39) hK (Kp.of_mv _ hm47) (fun _ h9 => (Kp.of_mv _ hm47).trans h9) ?_
            clear hK K
            (try simp only [Act.put, sA, sZ, sS])
            try clear hm47
            refine one (i := 9) (fun K hK => ?_)
            simp only [List.getElem_toArray, List.getElem_cons_succ, List.getElem_cons_zero]
            go_simp
            have hx54 : Ext u46 (u46.alloc (.cells #[.int .i64 d49.k, .int .i64 d49.n, .string d49.s, .slice d49.A d49.m d49.c] 31)) := (Ext.refl _).alloc _
            have hn9 : ∀ (k n : Int) (s : List UInt8), HT W (u46.alloc (.cells #[.int .i64 d49.k, .int .i64 d49.n, .string d49.s, .slice d49.A d49.m d49.c] 31)) ⟨k, n, bs s, some ⟨u46.heap.size, 0, none⟩, 1, 1⟩ (.nd k n s [t50]) := fun k n s => HT.node HA48.out.sz k n s [d49] [t50] #[.int .i64 d49.k, .int .i64 d49.n, .string d49.s, .slice d49.A d49.m d49.c] 1 rfl rfl (HT.kids1 HR51.out)
            obtain ⟨u53, hu9⟩ : ∃ x, x = u46.alloc (.cells #[.int .i64 d49.k, .int .i64 d49.n, .string d49.s, .slice d49.A d49.m d49.c] 31) := ⟨_, rfl⟩
            obtain ⟨g55, hg55⟩ : ∃ x, x = u46.heap.size := ⟨_, rfl⟩
            have hg55b : g55 ≠ b := by have := HA48.out.sz; omega
            have hg55W : g55 ≠ W.heap.size := by have := HA48.out.sz; omega
            rw [← hu9, ← hg55] at hn9
            rw [← hu9] at hx54 ⊢
            rw [← hg55]
            have HA56 := Lib.hid (HA48.out.ext hx54)
            have HN57 := Lib.hid hn9
            clear hu9 hn9 hg55
            have HSR58 := Lib.hid (HSR52.out.mv (Mv.of_ext hx54) hg41b)
            have HHT59 := Lib.hid (HR51.out.mv (Mv.of_ext hx54) hbW)
            refine NextE.go (Z := Kp b W.heap.size) (u := u46) hK (Kp.of_ext _ hx54) (fun _ h9 => (Kp.of_ext _ hx54).trans h9) ?_
            clear hK K
            (try simp only [Act.put, sA, sZ, sS])
            try clear hx54
            refine one (i := 10) (fun K hK => ?_)
            simp only [List.getElem_toArray, List.getElem_cons_succ, List.getElem_cons_zero]
            go_simp
            go_at_call 96
            refine (mnode_any _ _ _ _ _ _).mono ?_
            rintro e u60 ⟨rfl, hx61⟩
            simp only []
            have HSR63 := Lib.hid (HSR58.out.mv (Mv.of_ext hx61) hg41b)
            have HHT64 := Lib.hid (HHT59.out.mv (Mv.of_ext hx61) hbW)
            have HRW65 := Lib.hid (fun k n s => (HN57.out k n s).mv (Mv.of_ext hx61) hbW)
            have HA62 := Lib.hid (HA56.out.ext hx61)
            refine NextE.go (Z := Kp b W.heap.size) (u := u53) hK (Kp.of_ext _ hx61) (fun _ h9 => (Kp.of_ext _ hx61).trans h9) ?_
            clear hK K
            (try simp only [Act.put, sA, sZ, sS])
            try clear hx61
            refine one (i := 11) (fun K hK => ?_)
            obtain ⟨_, z0, z1, z2, z3, z4, z5, z6, z7⟩ := HA62.out.nx.nb
            simp only [List.getElem_toArray, List.getElem_cons_succ, List.getElem_cons_zero]
            go_simp
            refine hK.out _ _ ⟨fun _ => trivial, Kp.set4 _ _ _ _⟩ (fun _ => ?_)
            clear hK K
            (try simp only [Act.put, sA, sZ, sS])
            refine wpE_done (by kernel_rfl) ?_ _
            go_wp2_with fail
            refine bodyPost_ret (v := .agg #[.int .i64 5, .int .i64 0, .string S45, .slice (some ⟨g55, 0, none⟩) 1 1]) (by simp [results, Tryz.results46, go_sem, *]) rfl ?_
            exact HA62.out.fin (by have := FN_up h1; omega) ⟨5, 0, S45, some ⟨g55, 0, none⟩, 1, 1⟩ (.nd 5 0 s44 [t50]) (by rw [ES45.out]; exact HRW65.out 5 0 s44) (.up h1 (.una2 (by have := Ms44.out; simpa using this) HGt50.out.1) (by have := HGt50.out.2; simp only [tszs]; omega))
          · skip
            simp only [List.getElem_toArray, List.getElem_cons_succ, List.getElem_cons_zero]
            go_simp
            go_at_call 46
            refine (HSUB.out h1 _ _ HA38.out (by have := FN_up h1; omega)).mono ?_
            rintro e u66 hp9
            obtain ⟨d69, t70, rfl, hr9, hg9, ha9, hm67⟩ := HA38.out.sub hp9
            have HA68 := Lib.hid ha9
            have HR71 := Lib.hid hr9
            have HGt70 := Lib.hid hg9
            clear hp9 ha9 hr9 hg9
            simp only []
            refine NextE.go (Z := Kp b W.heap.size) (u := u36) hK (Kp.of_mv _ hm67) (fun _ h9 => (Kp.of_mv _ hm67).trans h9) ?_
            clear hK K
            (try simp only [Act.put, sA, sZ, sS])
            try clear hm67
            refine two (i := 0) (j := 9) (fun K hK => ?_) (fun K hK => ?_)
            · skip
              simp only [List.getElem_toArray, List.getElem_cons_zero]
              go_simp
              have hx73 : Ext u66 (u66.alloc (.cells #[.string ⟨#[110, 111, 116]⟩, .string ⟨#[45]⟩] 9)) := (Ext.refl _).alloc _
              have hn9 := SR.new u66 [wNot, wMinus] #[.string ⟨#[110, 111, 116]⟩, .string ⟨#[45]⟩] rfl
              obtain ⟨u72, hu9⟩ : ∃ x, x = u66.alloc (.cells #[.string ⟨#[110, 111, 116]⟩, .string ⟨#[45]⟩] 9) := ⟨_, rfl⟩
              obtain ⟨g74, hg74⟩ : ∃ x, x = u66.heap.size := ⟨_, rfl⟩
              have hg74b : g74 ≠ b := by have := HA68.out.sz; omega
              have hg74W : g74 ≠ W.heap.size := by have := HA68.out.sz; omega
              rw [← hu9, ← hg74] at hn9
              rw [← hu9] at hx73 ⊢
              rw [← hg74]
              have HA75 := Lib.hid (HA68.out.ext hx73)
              have HN76 := Lib.hid hn9
              clear hu9 hn9 hg74
              have HHT77 := Lib.hid (HR71.out.mv (Mv.of_ext hx73) hbW)
              obtain ⟨s78, hs78⟩ : ∃ s, ([wNot, wMinus] : List (List UInt8))[k35]? = some s := ⟨_, List.getElem?_eq_getElem (by simpa using hk35)⟩
              have Ms78 := Lib.hid (List.mem_of_getElem? hs78)
              have Gs78 := Lib.hid hs78
              obtain ⟨S79, hS79⟩ : ∃ S, S = bs s78 := ⟨_, rfl⟩
              have ES79 := Lib.hid hS79
              clear hs78 hS79
              refine NextE.go (Z := Kp b W.heap.size) (u := u66) hK (Kp.of_ext _ hx73) (fun _ h9 => (Kp.of_ext _ hx73).trans h9) ?_
              clear hK K
              (try simp only [Act.put, sA, sZ, sS])
              try clear hx73
              refine tkA (i := 3) (d := some 48) (v := ?_) (Kp.refl _ _ _) ?_ ?_; rotate_left
              · (intro w9 hT9; clear hT9; go_simp; try with_reducible rfl)
              (try simp only [Act.put, sA, sZ, sS])
              refine tkA (i := 4) (d := some 49) (v := ?_) (Kp.refl _ _ _) ?_ ?_; rotate_left
              · (intro w9 hT9; have q9 := (HN76.out.kp hT9 hg74b hg74W).at_ _ _ Gs78.out; rw [← ES79.out] at q9; go_simp; try with_reducible rfl)
              (try simp only [Act.put, sA, sZ, sS])
              refine one (i := 9) (fun K hK => ?_)
              simp only [List.getElem_toArray, List.getElem_cons_succ, List.getElem_cons_zero]
              go_simp
              have hx81 : Ext u72 (u72.alloc (.cells #[.int .i64 d69.k, .int .i64 d69.n, .string d69.s, .slice d69.A d69.m d69.c] 31)) := (Ext.refl _).alloc _
              have hn9 : ∀ (k n : Int) (s : List UInt8), HT W (u72.alloc (.cells #[.int .i64 d69.k, .int .i64 d69.n, .string d69.s, .slice d69.A d69.m d69.c] 31)) ⟨k, n, bs s, some ⟨u72.heap.size, 0, none⟩, 1, 1⟩ (.nd k n s [t70]) := fun k n s => HT.node HA75.out.sz k n s [d69] [t70] #[.int .i64 d69.k, .int .i64 d69.n, .string d69.s, .slice d69.A d69.m d69.c] 1 rfl rfl (HT.kids1 HHT77.out)
              obtain ⟨u80, hu9⟩ : ∃ x, x = u72.alloc (.cells #[.int .i64 d69.k, .int .i64 d69.n, .string d69.s, .slice d69.A d69.m d69.c] 31) := ⟨_, rfl⟩
              obtain ⟨g82, hg82⟩ : ∃ x, x = u72.heap.size := ⟨_, rfl⟩
              have hg82b : g82 ≠ b := by have := HA75.out.sz; omega
              have hg82W : g82 ≠ W.heap.size := by have := HA75.out.sz; omega
              rw [← hu9, ← hg82] at hn9
              rw [← hu9] at hx81 ⊢
              rw [← hg82]
              have HA83 := Lib.hid (HA75.out.ext hx81)
              have HN84 := Lib.hid hn9
              clear hu9 hn9 hg82
              have HSR85 := Lib.hid (HN76.out.mv (Mv.of_ext hx81) hg74b)
              have HHT86 := Lib.hid (HHT77.out.mv (Mv.of_ext hx81) hbW)
              refine NextE.go (Z := Kp b W.heap.size) (u := u72) hK (Kp.of_ext _ hx81) (fun _ h9 => (Kp.of_ext _ hx81).trans h9) ?_
              clear hK K
              (try simp only [Act.put, sA, sZ, sS])
              try clear hx81
              refine one (i := 10) (fun K hK => ?_)
              simp only [List.getElem_toArray, List.getElem_cons_succ, List.getElem_cons_zero]
              go_simp
              go_at_call 96
              refine (mnode_any _ _ _ _ _ _).mono ?_
              rintro e u87 ⟨rfl, hx88⟩
              simp only []
              have HSR90 := Lib.hid (HSR85.out.mv (Mv.of_ext hx88) hg74b)
              have HHT91 := Lib.hid (HHT86.out.mv (Mv.of_ext hx88) hbW)
              have HRW92 := Lib.hid (fun k n s => (HN84.out k n s).mv (Mv.of_ext hx88) hbW)
              have HA89 := Lib.hid (HA83.out.ext hx88)
              refine NextE.go (Z := Kp b W.heap.size) (u := u80) hK (Kp.of_ext _ hx88) (fun _ h9 => (Kp.of_ext _ hx88).trans h9) ?_
              clear hK K
              (try simp only [Act.put, sA, sZ, sS])
              try clear hx88
              refine one (i := 11) (fun K hK => ?_)
              obtain ⟨_, z0, z1, z2, z3, z4, z5, z6, z7⟩ := HA89.out.nx.nb
              simp only [List.getElem_toArray, List.getElem_cons_succ, List.getElem_cons_zero]
              go_simp
              refine hK.out _ _ ⟨fun _ => trivial, Kp.set4 _ _ _ _⟩ (fun _ => ?_)
              clear hK K
              (try simp only [Act.put, sA, sZ, sS])
              refine wpE_done (by kernel_rfl) ?_ _
              go_wp2_with fail
              refine bodyPost_ret (v := .agg #[.int .i64 5, .int .i64 0, .string S79, .slice (some ⟨g82, 0, none⟩) 1 1]) (by simp [results, Tryz.results46, go_sem, *]) rfl ?_
              exact HA89.out.fin (by have := FN_up h1; omega) ⟨5, 0, S79, some ⟨g82, 0, none⟩, 1, 1⟩ (.nd 5 0 s78 [t70]) (by rw [ES79.out]; exact HRW92.out 5 0 s78) (.up h1 (.una2 (by have := Ms78.out; simpa using this) HGt70.out.1) (by have := HGt70.out.2; simp only [tszs]; omega))
            · skip
              simp only [List.getElem_toArray, List.getElem_cons_succ, List.getElem_cons_zero]
              go_simp
              have hx94 : Ext u66 (u66.alloc (.cells #[.int .i64 d69.k, .int .i64 d69.n, .string d69.s, .slice d69.A d69.m d69.c] 31)) := (Ext.refl _).alloc _
              have hn9 : ∀ (k n : Int) (s : List UInt8), HT W (u66.alloc (.cells #[.int .i64 d69.k, .int .i64 d69.n, .string d69.s, .slice d69.A d69.m d69.c] 31)) ⟨k, n, bs s, some ⟨u66.heap.size, 0, none⟩, 1, 1⟩ (.nd k n s [t70]) := fun k n s => HT.node HA68.out.sz k n s [d69] [t70] #[.int .i64 d69.k, .int .i64 d69.n, .string d69.s, .slice d69.A d69.m d69.c] 1 rfl rfl (HT.kids1 HR71.out)
              obtain ⟨u93, hu9⟩ : ∃ x, x = u66.alloc (.cells #[.int .i64 d69.k, .int .i64 d69.n, .string d69.s, .slice d69.A d69.m d69.c] 31) := ⟨_, rfl⟩
              obtain ⟨g95, hg95⟩ : ∃ x, x = u66.heap.size := ⟨_, rfl⟩
              have hg95b : g95 ≠ b := by have := HA68.out.sz; omega
              have hg95W : g95 ≠ W.heap.size := by have := HA68.out.sz; omega
              rw [← hu9, ← hg95] at hn9
              rw [← hu9] at hx94 ⊢
              rw [← hg95]
              have HA96 := Lib.hid (HA68.out.ext hx94)
              have HN97 := Lib.hid hn9
              clear hu9 hn9 hg95
              have HHT98 := Lib.hid (HR71.out.mv (Mv.of_ext hx94) hbW)
              refine NextE.go (Z := Kp b W.heap.size) (u := u66) hK (Kp.of_ext _ hx94) (fun _ h9 => (Kp.of_ext _ hx94).trans h9) ?_
              clear hK K
              (try simp only [Act.put, sA, sZ, sS])
              try clear hx94
              refine one (i := 0) (fun K hK => ?_)
              simp only [List.getElem_toArray, List.getElem_cons_zero]
              go_simp
              have hx100 : Ext u93 (u93.alloc (.cells #[.string ⟨#[110, 111, 116]⟩, .string ⟨#[45]⟩] 9)) := (Ext.refl _).alloc _
              have hn9 := SR.new u93 [wNot, wMinus] #[.string ⟨#[110, 111, 116]⟩, .string ⟨#[45]⟩] rfl
              obtain ⟨u99, hu9⟩ : ∃ x, x = u93.alloc (.cells #[.string ⟨#[110, 111, 116]⟩, .string ⟨#[45]⟩] 9) := ⟨_, rfl⟩
              obtain ⟨g101, hg101⟩ : ∃ x, x = u93.heap.size := ⟨_, rfl⟩
              have hg101b : g101 ≠ b := by have := HA96.out.sz; omega
              have hg101W : g101 ≠ W.heap.size := by have := HA96.out.sz; omega
              rw [← hu9, ← hg101] at hn9
              rw [← hu9] at hx100 ⊢
              rw [← hg101]
              have HA102 := Lib.hid (HA96.out.ext hx100)
              have HN103 := Lib.hid hn9
              clear hu9 hn9 hg101
              have HHT104 := Lib.hid (HHT98.out.mv (Mv.of_ext hx100) hbW)
              have HRW105 := Lib.hid (fun k n s => (HN97.out k n s).mv (Mv.of_ext hx100) hbW)
              obtain ⟨s106, hs106⟩ : ∃ s, ([wNot, wMinus] : List (List UInt8))[k35]? = some s := ⟨_, List.getElem?_eq_getElem (by simpa using hk35)⟩
              have Ms106 := Lib.hid (List.mem_of_getElem? hs106)
              have Gs106 := Lib.hid hs106
              obtain ⟨S107, hS107⟩ : ∃ S, S = bs s106 := ⟨_, rfl⟩
              have ES107 := Lib.hid hS107
              clear hs106 hS107
              refine NextE.go (Z := Kp b W.heap.size) (u := u93) hK (Kp.of_ext _ hx100) (fun _ h9 => (Kp.of_ext _ hx100).trans h9) ?_
              clear hK K
              (try simp only [Act.put, sA, sZ, sS])
              try clear hx100
              refine tkA (i := 3) (d := some 48) (v := ?_) (Kp.refl _ _ _) ?_ ?_; rotate_left
              · (intro w9 hT9; clear hT9; go_simp; try with_reducible rfl)
              (try simp only [Act.put, sA, sZ, sS])
              refine tkA (i := 4) (d := some 49) (v := ?_) (Kp.refl _ _ _) ?_ ?_; rotate_left
              · (intro w9 hT9; have q9 := (HN103.out.kp hT9 hg101b hg101W).at_ _ _ Gs106.out; rw [← ES107.out] at q9; go_simp; try with_reducible rfl)
              (try simp only [Act.put, sA, sZ, sS])
              refine one (i := 10) (fun K hK => ?_)
              simp only [List.getElem_toArray, List.getElem_cons_succ, List.getElem_cons_zero]
              go_simp
              go_at_call 96
              refine (mnode_any _ _ _ _ _ _).mono ?_
              rintro e u108 ⟨rfl, hx109⟩
              simp only []
              have HSR111 := Lib.hid (HN103.out.mv (Mv.of_ext hx109) hg101b)
              have HHT112 := Lib.hid (HHT104.out.mv (Mv.of_ext hx109) hbW)
              have HRW113 := Lib.hid (fun k n s => (HRW105.out k n s).mv (Mv.of_ext hx109) hbW)
              have HA110 := Lib.hid (HA102.out.ext hx109)
              refine NextE.go (Z := Kp b W.heap.size) (u := u99) hK (Kp.of_ext _ hx109) (fun _ h9 => (Kp.of_ext _ hx109).trans h9) ?_
              clear hK K
              (try simp only [Act.put, sA, sZ, sS])
              try clear hx109
              refine one (i := 11) (fun K hK => ?_)
              obtain ⟨_, z0, z1, z2, z3, z4, z5, z6, z7⟩ := HA110.out.nx.nb
              simp only [List.getElem_toArray, List.getElem_cons_succ, List.getElem_cons_zero]
              go_simp
              refine hK.out _ _ ⟨fun _ => trivial, Kp.set4 _ _ _ _⟩ (fun _ => ?_)
              clear hK K
              (try simp only [Act.put, sA, sZ, sS])
              refine wpE_done (by kernel_rfl) ?_ _
              go_wp2_with fail
              refine bodyPost_ret (v := .agg #[.int .i64 5, .int .i64 0, .string S107, .slice (some ⟨g95, 0, none⟩) 1 1]) (by simp [results, Tryz.results46, go_sem, *]) rfl ?_
              exact HA110.out.fin (by have := FN_up h1; omega) ⟨5, 0, S107, some ⟨g95, 0, none⟩, 1, 1⟩ (.nd 5 0 s106 [t70]) (by rw [ES107.out]; exact HRW113.out 5 0 s106) (.up h1 (.una2 (by have := Ms106.out; simpa using this) HGt70.out.1) (by have := HGt70.out.2; simp only [tszs]; omega))
      · rcases h56 with rfl | rfl <;> (
          have h1I : (1 : Int) ≤ (deep : Int) := by omega
          have hwd : IntKind.i64.wrap ((deep : Int) - 1) = (deep : Int) - 1 := IntWalk.i64_in _ (by omega)
          go_upto_region 18 with (first | (go_at_call 46; refine (HSUB.out h1 _ _ HA.out (by have := FN_up h1; omega)).mono ?_; rintro e u1 hp; obtain ⟨d1, t1, rfl, hr1, hg1, ha1, hm1⟩ := HA.out.sub hp; have HA1 := Lib.hid ha1; have HR1 := Lib.hid hr1; have HGt1 := Lib.hid hg1; clear hp ha1 hr1 hg1))
          have hx6 : Ext u1 (u1.alloc (.cells #[.int .i64 d1.k, .int .i64 d1.n, .string d1.s, .slice d1.A d1.m d1.c] 31)) := (Ext.refl _).alloc _
          have hc6 : NX (u1.alloc (.cells #[.int .i64 d1.k, .int .i64 d1.n, .string d1.s, .slice d1.A d1.m d1.c] 31)) u1.heap.size d1.k d1.n d1.s (.slice d1.A d1.m d1.c) := heap_alloc_new _ _
          generalize u1.alloc (.cells #[.int .i64 d1.k, .int .i64 d1.n, .string d1.s, .slice d1.A d1.m d1.c] 31) = w6 at *
          have hgb6 : u1.heap.size ≠ b := by have := HA1.out.sz; omega
          have hgW6 : u1.heap.size ≠ W.heap.size := by have := HA1.out.sz; omega
          generalize u1.heap.size = g6 at *
          have HC6 := Lib.hid hc6
          have HB6 := Lib.hid (HA1.out.ext hx6)
          have HR6 := Lib.hid (HR1.out.mv (Mv.of_ext hx6) hbW)
          clear hc6 hx6
          refine wp_region_E (fun _ => True) (fun X => Kp b W.heap.size w6 X) (fun _ => true) (by kernel_rfl) ?_
          obtain ⟨u1, hu9, hx9⟩ : ∃ x, w6.drew = x ∧ Ext w6 x := ⟨_, rfl, (Ext.refl _).drew⟩
          rw [hu9]
          clear hu9
          have HNX3 := Lib.hid (HC6.out.mv (Mv.of_ext hx9) hgb6)
          have HHT4 := Lib.hid (HR6.out.mv (Mv.of_ext hx9) hbW)
          have HA2 := Lib.hid (HB6.out.ext hx9)
          refine wpE_strong (T' := fun X => Kp b W.heap.size u1 X) (fun _ h9 => (Kp.of_ext _ hx9).trans h9) _ _ _ _ ?_
          clear hx9
          refine tkA (i := 0) (d := some 63) (v := ?_) (Kp.refl _ _ _) ?_ ?_; rotate_left
          · (intro w9 hT9; clear hT9; go_simp; try with_reducible rfl)
          (try simp only [Act.put, sA, sZ, sS])
          refine tkA (i := 4) (d := some 67) (v := ?_) (Kp.refl _ _ _) ?_ ?_; rotate_left
          · (intro w9 hT9; clear hT9; go_simp; try with_reducible rfl)
          (try simp only [Act.put, sA, sZ, sS])
          refine tkA (i := 8) (d := some 71) (v := ?_) (Kp.refl _ _ _) ?_ ?_; rotate_left
          · (intro w9 hT9; obtain ⟨_, q0, q1, q2, q3, _, _, _, _⟩ := (HNX3.out.kp hT9 hgb6 hgW6).nb; go_simp; try with_reducible rfl)
          (try simp only [Act.put, sA, sZ, sS])
          refine tkA (i := 9) (d := some 72) (v := ?_) (Kp.refl _ _ _) ?_ ?_; rotate_left
          · (intro w9 hT9; clear hT9; go_simp; try with_reducible rfl)
          (try simp only [Act.put, sA, sZ, sS])
          refine tkA (i := 10) (d := some 73) (v := ?_) (Kp.refl _ _ _) ?_ ?_; rotate_left
          · (intro w9 hT9; clear hT9; go_simp; try with_reducible rfl)
          (try simp only [Act.put, sA, sZ, sS])
          refine tkA (i := 11) (d := some 74) (v := ?_) (Kp.refl _ _ _) ?_ ?_; rotate_left
          · (intro w9 hT9; clear hT9; go_simp; try with_reducible rfl)
          (try simp only [Act.put, sA, sZ, sS])
          refine two (i := 1) (j := 3) (fun K hK => ?_) (fun K hK => ?_)
          · skip
            simp only [List.getElem_toArray, List.getElem_cons_succ, List.getElem_cons_zero]
            go_simp
            go_at_call 44
            refine (HA2.out.nextI (by have := FN_up h1; omega) 2 2 rfl (by decide) (by decide)).mono ?_
            rintro e u6 ⟨k5, rfl, hk5, ha9, hm7⟩
            have HA8 := Lib.hid ha9
            clear ha9
            simp only []
            have hk5I : (k5 : Int) < 2 := by omega
            have hk5J : (0 : Int) ≤ (k5 : Int) := Int.natCast_nonneg _
            have hk5W : IntKind.i64.wrap (7 + (k5 : Int)) = 7 + (k5 : Int) := IntWalk.i64_in _ (by omega)
            have HNX9 := Lib.hid (HNX3.out.mv hm7 hgb6)
            have HHT10 := Lib.hid (HHT4.out.mv hm7 hbW)
            refine NextE.go (Z := Kp b W.heap.size) (u := u1) hK (Kp.of_mv _ hm7) (fun _ h9 => (Kp.of_mv _ hm7).trans h9) ?_
            clear hK K
            (try simp only [Act.put, sA, sZ, sS])
            try clear hm7
            refine tkA (i := 2) (d := some 65) (v := ?_) (Kp.refl _ _ _) ?_ ?_; rotate_left
            · (intro w9 hT9; clear hT9; go_simp; try with_reducible rfl)
            (try simp only [Act.put, sA, sZ, sS])
            refine two (i := 3) (j := 5) (fun K hK => ?_) (fun K hK => ?_)
            · skip
              simp only [List.getElem_toArray, List.getElem_cons_succ, List.getElem_cons_zero]
              go_simp
              have hx12 : Ext u6 (u6.alloc (.cells #[.string ⟨#[100, 97, 121, 115]⟩, .string ⟨#[119, 101, 101, 107, 115]⟩, .string ⟨#[109, 111, 110, 116, 104, 115]⟩, .string ⟨#[99, 111, 117, 114, 116, 100, 97, 121, 115]⟩] 9)) := (Ext.refl _).alloc _
              have hn9 := SR.new u6 [wDays, wWeeks, wMonths, wCourtdays] #[.string ⟨#[100, 97, 121, 115]⟩, .string ⟨#[119, 101, 101, 107, 115]⟩, .string ⟨#[109, 111, 110, 116, 104, 115]⟩, .string ⟨#[99, 111, 117, 114, 116, 100, 97, 121, 115]⟩] rfl
              obtain ⟨u11, hu9⟩ : ∃ x, x = u6.alloc (.cells #[.string ⟨#[100, 97, 121, 115]⟩, .string ⟨#[119, 101, 101, 107, 115]⟩, .string ⟨#[109, 111, 110, 116, 104, 115]⟩, .string ⟨#[99, 111, 117, 114, 116, 100, 97, 121, 115]⟩] 9) := ⟨_, rfl⟩
              obtain ⟨g13, hg13⟩ : ∃ x, x = u6.heap.size := ⟨_, rfl⟩
              have hg13b : g13 ≠ b := by have := HA8.out.sz; omega
              have hg13W : g13 ≠ W.heap.size := by have := HA8.out.sz; omega
              rw [← hu9, ← hg13] at hn9
              rw [← hu9] at hx12 ⊢
              rw [← hg13]
              have HA14 := Lib.hid (HA8.out.ext hx12)
              have HN15 := Lib.hid hn9
              clear hu9 hn9 hg13
              have HNX16 := Lib.hid (HNX9.out.mv (Mv.of_ext hx12) hgb6)
              have HHT17 := Lib.hid (HHT10.out.mv (Mv.of_ext hx12) hbW)
              refine NextE.go (Z := Kp b W.heap.size) (u := u6) hK (Kp.of_ext _ hx12) (fun _ h9 => (Kp.of_ext _ hx12).trans h9) ?_
              clear hK K
              (try simp only [Act.put, sA, sZ, sS])
              try clear hx12
              refine one (i := 5) (fun K hK => ?_)
              simp only [List.getElem_toArray, List.getElem_cons_succ, List.getElem_cons_zero]
              go_simp
              go_at_call 44
              refine (HA14.out.nextI (by have := FN_up h1; omega) 4 4 rfl (by decide) (by decide)).mono ?_
              rintro e u19 ⟨k18, rfl, hk18, ha9, hm20⟩
              have HA21 := Lib.hid ha9
              clear ha9
              simp only []
              have hk18I : (k18 : Int) < 4 := by omega
              have hk18J : (0 : Int) ≤ (k18 : Int) := Int.natCast_nonneg _
              have HSR22 := Lib.hid (HN15.out.mv hm20 hg13b)
              have HNX23 := Lib.hid (HNX16.out.mv hm20 hgb6)
              have HHT24 := Lib.hid (HHT17.out.mv hm20 hbW)
              obtain ⟨s25, hs25⟩ : ∃ s, ([wDays, wWeeks, wMonths, wCourtdays] : List (List UInt8))[k18]? = some s := ⟨_, List.getElem?_eq_getElem (by simpa using hk18)⟩
              have Ms25 := Lib.hid (List.mem_of_getElem? hs25)
              have Gs25 := Lib.hid hs25
              obtain ⟨S26, hS26⟩ : ∃ S, S = bs s25 := ⟨_, rfl⟩
              have ES26 := Lib.hid hS26
              clear hs25 hS26
              refine NextE.go (Z := Kp b W.heap.size) (u := u11) hK (Kp.of_mv _ hm20) (fun _ h9 => (Kp.of_mv _ hm20).trans h9) ?_
              clear hK K
              (try simp only [Act.put, sA, sZ, sS])
              try clear hm20
              refine tkA (i := 6) (d := some 69) (v := ?_) (Kp.refl _ _ _) ?_ ?_; rotate_left
              · (intro w9 hT9; clear hT9; go_simp; try with_reducible rfl)
              (try simp only [Act.put, sA, sZ, sS])
              refine tkA (i := 7) (d := some 70) (v := ?_) (Kp.refl _ _ _) ?_ ?_; rotate_left
              · (intro w9 hT9; have q9 := (HSR22.out.kp hT9 hg13b hg13W).at_ _ _ Gs25.out; rw [← ES26.out] at q9; go_simp; try with_reducible rfl)
              (try simp only [Act.put, sA, sZ, sS])
              refine one (i := 12) (fun K hK => ?_)
              simp only [List.getElem_toArray, List.getElem_cons_succ, List.getElem_cons_zero]
              go_simp
              go_at_call 46
              refine (HSUB.out h1 _ _ HA21.out (by have := FN_up h1; omega)).mono ?_
              rintro e u27 hp9
              obtain ⟨d30, t31, rfl, hr9, hg9, ha9, hm28⟩ := HA21.out.sub hp9
              have HA29 := Lib.hid ha9
              have HR32 := Lib.hid hr9
              have HGt31 := Lib.hid hg9
              clear hp9 ha9 hr9 hg9
              simp only []
              have HSR33 := Lib.hid (HSR22.out.mv hm28 hg13b)
              have HNX34 := Lib.hid (HNX23.out.mv hm28 hgb6)
              have HHT35 := Lib.hid (HHT24.out.mv hm28 hbW)
              refine NextE.go (Z := Kp b W.heap.size) (u := u19) hK (Kp.of_mv _ hm28) (fun _ h9 => (Kp.of_mv _ hm28).trans h9) ?_
              clear hK K
              (try simp only [Act.put, sA, sZ, sS])
              try clear hm28
              refine one (i := 13) (fun K hK => ?_)
              simp only [List.getElem_toArray, List.getElem_cons_succ, List.getElem_cons_zero]
              go_simp
              have hx37 : Ext u27 (u27.alloc (.cells #[.int .i64 d1.k, .int .i64 d1.n, .string d1.s, .slice d1.A d1.m d1.c, .int .i64 d30.k, .int .i64 d30.n, .string d30.s, .slice d30.A d30.m d30.c] 31)) := (Ext.refl _).alloc _
              have hn9 : ∀ (k n : Int) (s : List UInt8), HT W (u27.alloc (.cells #[.int .i64 d1.k, .int .i64 d1.n, .string d1.s, .slice d1.A d1.m d1.c, .int .i64 d30.k, .int .i64 d30.n, .string d30.s, .slice d30.A d30.m d30.c] 31)) ⟨k, n, bs s, some ⟨u27.heap.size, 0, none⟩, 2, 2⟩ (.nd k n s [t1, t31]) := fun k n s => HT.node HA29.out.sz k n s [d1, d30] [t1, t31] #[.int .i64 d1.k, .int .i64 d1.n, .string d1.s, .slice d1.A d1.m d1.c, .int .i64 d30.k, .int .i64 d30.n, .string d30.s, .slice d30.A d30.m d30.c] 2 rfl rfl (HT.kids2 HHT35.out HR32.out)
              obtain ⟨u36, hu9⟩ : ∃ x, x = u27.alloc (.cells #[.int .i64 d1.k, .int .i64 d1.n, .string d1.s, .slice d1.A d1.m d1.c, .int .i64 d30.k, .int .i64 d30.n, .string d30.s, .slice d30.A d30.m d30.c] 31) := ⟨_, rfl⟩
              obtain ⟨g38, hg38⟩ : ∃ x, x = u27.heap.size := ⟨_, rfl⟩
              have hg38b : g38 ≠ b := by have := HA29.out.sz; omega
              have hg38W : g38 ≠ W.heap.size := by have := HA29.out.sz; omega
              rw [← hu9, ← hg38] at hn9
              rw [← hu9] at hx37 ⊢
              rw [← hg38]
              have HA39 := Lib.hid (HA29.out.ext hx37)
              have HN40 := Lib.hid hn9
              clear hu9 hn9 hg38
              have HSR41 := Lib.hid (HSR33.out.mv (Mv.of_ext hx37) hg13b)
              have HNX42 := Lib.hid (HNX34.out.mv (Mv.of_ext hx37) hgb6)
              have HHT43 := Lib.hid (HHT35.out.mv (Mv.of_ext hx37) hbW)
              have HHT44 := Lib.hid (HR32.out.mv (Mv.of_ext hx37) hbW)
              refine NextE.go (Z := Kp b W.heap.size) (u := u27) hK (Kp.of_ext _ hx37) (fun _ h9 => (Kp.of_ext _ hx37).trans h9) ?_
              clear hK K
              (try simp only [Act.put, sA, sZ, sS])
              try clear hx37
              refine one (i := 14) (fun K hK => ?_)
              simp only [List.getElem_toArray, List.getElem_cons_succ, List.getElem_cons_zero]
              go_simp
              go_at_call 96
              refine (mnode_any _ _ _ _ _ _).mono ?_
              rintro e u45 ⟨rfl, hx46⟩
              simp only []
              have HSR48 := Lib.hid (HSR41.out.mv (Mv.of_ext hx46) hg13b)
              have HNX49 := Lib.hid (HNX42.out.mv (Mv.of_ext hx46) hgb6)
              have HHT50 := Lib.hid (HHT43.out.mv (Mv.of_ext hx46) hbW)
              have HHT51 := Lib.hid (HHT44.out.mv (Mv.of_ext hx46) hbW)
              have HRW52 := Lib.hid (fun k n s => (HN40.out k n s).mv (Mv.of_ext hx46) hbW)
              have HA47 := Lib.hid (HA39.out.ext hx46)
              refine NextE.go (Z := Kp b W.heap.size) (u := u36) hK (Kp.of_ext _ hx46) (fun _ h9 => (Kp.of_ext _ hx46).trans h9) ?_
              clear hK K
              (try simp only [Act.put, sA, sZ, sS])
              try clear hx46
              refine one (i := 15) (fun K hK => ?_)
              obtain ⟨_, z0, z1, z2, z3, z4, z5, z6, z7⟩ := HA47.out.nx.nb
              simp only [List.getElem_toArray, List.getElem_cons_succ, List.getElem_cons_zero]
              go_simp
              refine hK.out _ _ ⟨fun _ => trivial, Kp.set4 _ _ _ _⟩ (fun _ => ?_)
              clear hK K
              (try simp only [Act.put, sA, sZ, sS])
              refine wpE_done (by kernel_rfl) ?_ _
              go_wp2_with fail
              refine bodyPost_ret (v := .agg #[.int .i64 (7 + (k5 : Int)), .int .i64 0, .string S26, .slice (some ⟨g38, 0, none⟩) 2 2]) (by simp [results, Tryz.results46, go_sem, *]) rfl ?_
              exact HA47.out.fin (by have := FN_up h1; omega) ⟨7 + (k5 : Int), 0, S26, some ⟨g38, 0, none⟩, 2, 2⟩ (.nd (7 + (k5 : Int)) 0 s25 [t1, t31]) (by rw [ES26.out]; exact HRW52.out _ 0 s25) (.up h1 (.aft2 (by omega) Ms25.out HGt1.out.1 HGt31.out.1) (by have := HGt31.out.2; have := HGt1.out.2; simp only [tszs]; omega))
            · skip
              simp only [List.getElem_toArray, List.getElem_cons_succ, List.getElem_cons_zero]
              go_simp
              go_at_call 44
              refine (HA8.out.nextI (by have := FN_up h1; omega) 4 4 rfl (by decide) (by decide)).mono ?_
              rintro e u54 ⟨k53, rfl, hk53, ha9, hm55⟩
              have HA56 := Lib.hid ha9
              clear ha9
              simp only []
              have hk53I : (k53 : Int) < 4 := by omega
              have hk53J : (0 : Int) ≤ (k53 : Int) := Int.natCast_nonneg _
              have HNX57 := Lib.hid (HNX9.out.mv hm55 hgb6)
              have HHT58 := Lib.hid (HHT10.out.mv hm55 hbW)
              refine NextE.go (Z := Kp b W.heap.size) (u := u6) hK (Kp.of_mv _ hm55) (fun _ h9 => (Kp.of_mv _ hm55).trans h9) ?_
              clear hK K
              (try simp only [Act.put, sA, sZ, sS])
              try clear hm55
              refine two (i := 3) (j := 12) (fun K hK => ?_) (fun K hK => ?_)
              · skip
                simp only [List.getElem_toArray, List.getElem_cons_succ, List.getElem_cons_zero]
                go_simp
                have hx60 : Ext u54 (u54.alloc (.cells #[.string ⟨#[100, 97, 121, 115]⟩, .string ⟨#[119, 101, 101, 107, 115]⟩, .string ⟨#[109, 111, 110, 116, 104, 115]⟩, .string ⟨#[99, 111, 117, 114, 116, 100, 97, 121, 115]⟩] 9)) := (Ext.refl _).alloc _
                have hn9 := SR.new u54 [wDays, wWeeks, wMonths, wCourtdays] #[.string ⟨#[100, 97, 121, 115]⟩, .string ⟨#[119, 101, 101, 107, 115]⟩, .string ⟨#[109, 111, 110, 116, 104, 115]⟩, .string ⟨#[99, 111, 117, 114, 116, 100, 97, 121, 115]⟩] rfl
                obtain ⟨u59, hu9⟩ : ∃ x, x = u54.alloc (.cells #[.string ⟨#[100, 97, 121, 115]⟩, .string ⟨#[119, 101, 101, 107, 115]⟩, .string ⟨#[109, 111, 110, 116, 104, 115]⟩, .string ⟨#[99, 111, 117, 114, 116, 100, 97, 121, 115]⟩] 9) := ⟨_, rfl⟩
                obtain ⟨g61, hg61⟩ : ∃ x, x = u54.heap.size := ⟨_, rfl⟩
                have hg61b : g61 ≠ b := by have := HA56.out.sz; omega
                have hg61W : g61 ≠ W.heap.size := by have := HA56.out.sz; omega
                rw [← hu9, ← hg61] at hn9
                rw [← hu9] at hx60 ⊢
                rw [← hg61]
                have HA62 := Lib.hid (HA56.out.ext hx60)
                have HN63 := Lib.hid hn9
                clear hu9 hn9 hg61
                have HNX64 := Lib.hid (HNX57.out.mv (Mv.of_ext hx60) hgb6)
                have HHT65 := Lib.hid (HHT58.out.mv (Mv.of_ext hx60) hbW)
                obtain ⟨s66, hs66⟩ : ∃ s, ([wDays, wWeeks, wMonths, wCourtdays] : List (List UInt8))[k53]? = some s := ⟨_, List.getElem?_eq_getElem (by simpa using hk53)⟩
                have Ms66 := Lib.hid (List.mem_of_getElem? hs66)
                have Gs66 := Lib.hid hs66
                obtain ⟨S67, hS67⟩ : ∃ S, S = bs s66 := ⟨_, rfl⟩
                have ES67 := Lib.hid hS67
                clear hs66 hS67
                refine NextE.go (Z := Kp b W.heap.size) (u := u54) hK (Kp.of_ext _ hx60) (fun _ h9 => (Kp.of_ext _ hx60).trans h9) ?_
                clear hK K
                (try simp only [Act.put, sA, sZ, sS])
                try clear hx60
                refine tkA (i := 6) (d := some 69) (v := ?_) (Kp.refl _ _ _) ?_ ?_; rotate_left
                · (intro w9 hT9; clear hT9; go_simp; try with_reducible rfl)
                (try simp only [Act.put, sA, sZ, sS])
                refine tkA (i := 7) (d := some 70) (v := ?_) (Kp.refl _ _ _) ?_ ?_; rotate_left
                · (intro w9 hT9; have q9 := (HN63.out.kp hT9 hg61b hg61W).at_ _ _ Gs66.out; rw [← ES67.out] at q9; go_simp; try with_reducible rfl)
                (try simp only [Act.put, sA, sZ, sS])
                refine one (i := 12) (fun K hK => ?_)
                simp only [List.getElem_toArray, List.getElem_cons_succ, List.getElem_cons_zero]
                go_simp
                go_at_call 46
                refine (HSUB.out h1 _ _ HA62.out (by have := FN_up h1; omega)).mono ?_
                rintro e u68 hp9
                obtain ⟨d71, t72, rfl, hr9, hg9, ha9, hm69⟩ := HA62.out.sub hp9
                have HA70 := Lib.hid ha9
                have HR73 := Lib.hid hr9
                have HGt72 := Lib.hid hg9
                clear hp9 ha9 hr9 hg9
                simp only []
                have HSR74 := Lib.hid (HN63.out.mv hm69 hg61b)
                have HNX75 := Lib.hid (HNX64.out.mv hm69 hgb6)
                have HHT76 := Lib.hid (HHT65.out.mv hm69 hbW)
                refine NextE.go (Z := Kp b W.heap.size) (u := u59) hK (Kp.of_mv _ hm69) (fun _ h9 => (Kp.of_mv _ hm69).trans h9) ?_
                clear hK K
                (try simp only [Act.put, sA, sZ, sS])
                try clear hm69
                refine one (i := 13) (fun K hK => ?_)
                simp only [List.getElem_toArray, List.getElem_cons_succ, List.getElem_cons_zero]
                go_simp
                have hx78 : Ext u68 (u68.alloc (.cells #[.int .i64 d1.k, .int .i64 d1.n, .string d1.s, .slice d1.A d1.m d1.c, .int .i64 d71.k, .int .i64 d71.n, .string d71.s, .slice d71.A d71.m d71.c] 31)) := (Ext.refl _).alloc _
                have hn9 : ∀ (k n : Int) (s : List UInt8), HT W (u68.alloc (.cells #[.int .i64 d1.k, .int .i64 d1.n, .string d1.s, .slice d1.A d1.m d1.c, .int .i64 d71.k, .int .i64 d71.n, .string d71.s, .slice d71.A d71.m d71.c] 31)) ⟨k, n, bs s, some ⟨u68.heap.size, 0, none⟩, 2, 2⟩ (.nd k n s [t1, t72]) := fun k n s => HT.node HA70.out.sz k n s [d1, d71] [t1, t72] #[.int .i64 d1.k, .int .i64 d1.n, .string d1.s, .slice d1.A d1.m d1.c, .int .i64 d71.k, .int .i64 d71.n, .string d71.s, .slice d71.A d71.m d71.c] 2 rfl rfl (HT.kids2 HHT76.out HR73.out)
                obtain ⟨u77, hu9⟩ : ∃ x, x = u68.alloc (.cells #[.int .i64 d1.k, .int .i64 d1.n, .string d1.s, .slice d1.A d1.m d1.c, .int .i64 d71.k, .int .i64 d71.n, .string d71.s, .slice d71.A d71.m d71.c] 31) := ⟨_, rfl⟩
                obtain ⟨g79, hg79⟩ : ∃ x, x = u68.heap.size := ⟨_, rfl⟩
                have hg79b : g79 ≠ b := by have := HA70.out.sz; omega
                have hg79W : g79 ≠ W.heap.size := by have := HA70.out.sz; omega
                rw [← hu9, ← hg79] at hn9
                rw [← hu9] at hx78 ⊢
                rw [← hg79]
                have HA80 := Lib.hid (HA70.out.ext hx78)
                have HN81 := Lib.hid hn9
                clear hu9 hn9 hg79
                have HSR82 := Lib.hid (HSR74.out.mv (Mv.of_ext hx78) hg61b)
                have HNX83 := Lib.hid (HNX75.out.mv (Mv.of_ext hx78) hgb6)
                have HHT84 := Lib.hid (HHT76.out.mv (Mv.of_ext hx78) hbW)
                have HHT85 := Lib.hid (HR73.out.mv (Mv.of_ext hx78) hbW)
                refine NextE.go (Z := Kp b W.heap.size) (u := u68) hK (Kp.of_ext _ hx78) (fun _ h9 => (Kp.of_ext _ hx78).trans h9) ?_
                clear hK K
                (try simp only [Act.put, sA, sZ, sS])
                try clear hx78
                refine one (i := 14) (fun K hK => ?_)
                simp only [List.getElem_toArray, List.getElem_cons_succ, List.getElem_cons_zero]
                go_simp
                go_at_call 96
                refine (mnode_any _ _ _ _ _ _).mono ?_
                rintro e u86 ⟨rfl, hx87⟩
                simp only []
                have HSR89 := Lib.hid (HSR82.out.mv (Mv.of_ext hx87) hg61b)
                have HNX90 := Lib.hid (HNX83.out.mv (Mv.of_ext hx87) hgb6)
                have HHT91 := Lib.hid (HHT84.out.mv (Mv.of_ext hx87) hbW)
                have HHT92 := Lib.hid (HHT85.out.mv (Mv.of_ext hx87) hbW)
                have HRW93 := Lib.hid (fun k n s => (HN81.out k n s).mv (Mv.of_ext hx87) hbW)
                have HA88 := Lib.hid (HA80.out.ext hx87)
                refine NextE.go (Z := Kp b W.heap.size) (u := u77) hK (Kp.of_ext _ hx87) (fun _ h9 => (Kp.of_ext _ hx87).trans h9) ?_
                clear hK K
                (try simp only [Act.put, sA, sZ, sS])
                try clear hx87
                refine one (i := 15) (fun K hK => ?_)
                obtain ⟨_, z0, z1, z2, z3, z4, z5, z6, z7⟩ := HA88.out.nx.nb
                simp only [List.getElem_toArray, List.getElem_cons_succ, List.getElem_cons_zero]
                go_simp
                refine hK.out _ _ ⟨fun _ => trivial, Kp.set4 _ _ _ _⟩ (fun _ => ?_)
                clear hK K
                (try simp only [Act.put, sA, sZ, sS])
                refine wpE_done (by kernel_rfl) ?_ _
                go_wp2_with fail
                refine bodyPost_ret (v := .agg #[.int .i64 (7 + (k5 : Int)), .int .i64 0, .string S67, .slice (some ⟨g79, 0, none⟩) 2 2]) (by simp [results, Tryz.results46, go_sem, *]) rfl ?_
                exact HA88.out.fin (by have := FN_up h1; omega) ⟨7 + (k5 : Int), 0, S67, some ⟨g79, 0, none⟩, 2, 2⟩ (.nd (7 + (k5 : Int)) 0 s66 [t1, t72]) (by rw [ES67.out]; exact HRW93.out _ 0 s66) (.up h1 (.aft2 (by omega) Ms66.out HGt1.out.1 HGt72.out.1) (by have := HGt72.out.2; have := HGt1.out.2; simp only [tszs]; omega))
              · skip
                simp only [List.getElem_toArray, List.getElem_cons_succ, List.getElem_cons_zero]
                go_simp
                go_at_call 46
                refine (HSUB.out h1 _ _ HA56.out (by have := FN_up h1; omega)).mono ?_
                rintro e u94 hp9
                obtain ⟨d97, t98, rfl, hr9, hg9, ha9, hm95⟩ := HA56.out.sub hp9
                have HA96 := Lib.hid ha9
                have HR99 := Lib.hid hr9
                have HGt98 := Lib.hid hg9
                clear hp9 ha9 hr9 hg9
                simp only []
                have HNX100 := Lib.hid (HNX57.out.mv hm95 hgb6)
                have HHT101 := Lib.hid (HHT58.out.mv hm95 hbW)
                refine NextE.go (Z := Kp b W.heap.size) (u := u54) hK (Kp.of_mv _ hm95) (fun _ h9 => (Kp.of_mv _ hm95).trans h9) ?_
                clear hK K
                (try simp only [Act.put, sA, sZ, sS])
                try clear hm95
                refine two (i := 3) (j := 13) (fun K hK => ?_) (fun K hK => ?_)
                · skip
                  simp only [List.getElem_toArray, List.getElem_cons_succ, List.getElem_cons_zero]
                  go_simp
                  have hx103 : Ext u94 (u94.alloc (.cells #[.string ⟨#[100, 97, 121, 115]⟩, .string ⟨#[119, 101, 101, 107, 115]⟩, .string ⟨#[109, 111, 110, 116, 104, 115]⟩, .string ⟨#[99, 111, 117, 114, 116, 100, 97, 121, 115]⟩] 9)) := (Ext.refl _).alloc _
                  have hn9 := SR.new u94 [wDays, wWeeks, wMonths, wCourtdays] #[.string ⟨#[100, 97, 121, 115]⟩, .string ⟨#[119, 101, 101, 107, 115]⟩, .string ⟨#[109, 111, 110, 116, 104, 115]⟩, .string ⟨#[99, 111, 117, 114, 116, 100, 97, 121, 115]⟩] rfl
                  obtain ⟨u102, hu9⟩ : ∃ x, x = u94.alloc (.cells #[.string ⟨#[100, 97, 121, 115]⟩, .string ⟨#[119, 101, 101, 107, 115]⟩, .string ⟨#[109, 111, 110, 116, 104, 115]⟩, .string ⟨#[99, 111, 117, 114, 116, 100, 97, 121, 115]⟩] 9) := ⟨_, rfl⟩
                  obtain ⟨g104, hg104⟩ : ∃ x, x = u94.heap.size := ⟨_, rfl⟩
                  have hg104b : g104 ≠ b := by have := HA96.out.sz; omega
                  have hg104W : g104 ≠ W.heap.size := by have := HA96.out.sz; omega
                  rw [← hu9, ← hg104] at hn9
                  rw [← hu9] at hx103 ⊢
                  rw [← hg104]
                  have HA105 := Lib.hid (HA96.out.ext hx103)
                  have HN106 := Lib.hid hn9
                  clear hu9 hn9 hg104
                  have HNX107 := Lib.hid (HNX100.out.mv (Mv.of_ext hx103) hgb6)
                  have HHT108 := Lib.hid (HHT101.out.mv (Mv.of_ext hx103) hbW)
                  have HHT109 := Lib.hid (HR99.out.mv (Mv.of_ext hx103) hbW)
                  obtain ⟨s110, hs110⟩ : ∃ s, ([wDays, wWeeks, wMonths, wCourtdays] : List (List UInt8))[k53]? = some s := ⟨_, List.getElem?_eq_getElem (by simpa using hk53)⟩
                  have Ms110 := Lib.hid (List.mem_of_getElem? hs110)
                  have Gs110 := Lib.hid hs110
                  obtain ⟨S111, hS111⟩ : ∃ S, S = bs s110 := ⟨_, rfl⟩
                  have ES111 := Lib.hid hS111
                  clear hs110 hS111
                  refine NextE.go (Z := Kp b W.heap.size) (u := u94) hK (Kp.of_ext _ hx103) (fun _ h9 => (Kp.of_ext _ hx103).trans h9) ?_
                  clear hK K
                  (try simp only [Act.put, sA, sZ, sS])
                  try clear hx103
                  refine tkA (i := 6) (d := some 69) (v := ?_) (Kp.refl _ _ _) ?_ ?_; rotate_left
                  · (intro w9 hT9; clear hT9; go_simp; try with_reducible rfl)
                  (try simp only [Act.put, sA, sZ, sS])
                  refine tkA (i := 7) (d := some 70) (v := ?_) (Kp.refl _ _ _) ?_ ?_; rotate_left
                  · (intro w9 hT9; have q9 := (HN106.out.kp hT9 hg104b hg104W).at_ _ _ Gs110.out; rw [← ES111.out] at q9; go_simp; try with_reducible rfl)
                  (try simp only [Act.put, sA, sZ, sS])
                  refine one (i := 13) (fun K hK => ?_)
                  simp only [List.getElem_toArray, List.getElem_cons_succ, List.getElem_cons_zero]
                  go_simp
                  have hx113 : Ext u102 (u102.alloc (.cells #[.int .i64 d1.k, .int .i64 d1.n, .string d1.s, .slice d1.A d1.m d1.c, .int .i64 d97.k, .int .i64 d97.n, .string d97.s, .slice d97.A d97.m d97.c] 31)) := (Ext.refl _).alloc _
                  have hn9 : ∀ (k n : Int) (s : List UInt8), HT W (u102.alloc (.cells #[.int .i64 d1.k, .int .i64 d1.n, .string d1.s, .slice d1.A d1.m d1.c, .int .i64 d97.k, .int .i64 d97.n, .string d97.s, .slice d97.A d97.m d97.c] 31)) ⟨k, n, bs s, some ⟨u102.heap.size, 0, none⟩, 2, 2⟩ (.nd k n s [t1, t98]) := fun k n s => HT.node HA105.out.sz k n s [d1, d97] [t1, t98] #[.int .i64 d1.k, .int .i64 d1.n, .string d1.s, .slice d1.A d1.m d1.c, .int .i64 d97.k, .int .i64 d97.n, .string d97.s, .slice d97.A d97.m d97.c] 2 rfl rfl (HT.kids2 HHT108.out HHT109.out)
                  obtain ⟨u112, hu9⟩ : ∃ x, x = u102.alloc (.cells #[.int .i64 d1.k, .int .i64 d1.n, .string d1.s, .slice d1.A d1.m d1.c, .int .i64 d97.k, .int .i64 d97.n, .string d97.s, .slice d97.A d97.m d97.c] 31) := ⟨_, rfl⟩
                  obtain ⟨g114, hg114⟩ : ∃ x, x = u102.heap.size := ⟨_, rfl⟩
                  have hg114b : g114 ≠ b := by have := HA105.out.sz; omega
                  have hg114W : g114 ≠ W.heap.size := by have := HA105.out.sz; omega
                  rw [← hu9, ← hg114] at hn9
                  rw [← hu9] at hx113 ⊢
                  rw [← hg114]
                  have HA115 := Lib.hid (HA105.out.ext hx113)
                  have HN116 := Lib.hid hn9
                  clear hu9 hn9 hg114
                  have HSR117 := Lib.hid (HN106.out.mv (Mv.of_ext hx113) hg104b)
                  have HNX118 := Lib.hid (HNX107.out.mv (Mv.of_ext hx113) hgb6)
                  have HHT119 := Lib.hid (HHT108.out.mv (Mv.of_ext hx113) hbW)
                  have HHT120 := Lib.hid (HHT109.out.mv (Mv.of_ext hx113) hbW)
                  refine NextE.go (Z := Kp b W.heap.size) (u := u102) hK (Kp.of_ext _ hx113) (fun _ h9 => (Kp.of_ext _ hx113).trans h9) ?_
                  clear hK K
                  (try simp only [Act.put, sA, sZ, sS])
                  try clear hx113
                  refine one (i := 14) (fun K hK => ?_)
                  simp only [List.getElem_toArray, List.getElem_cons_succ, List.getElem_cons_zero]
                  go_simp
                  go_at_call 96
                  refine (mnode_any _ _ _ _ _ _).mono ?_
                  rintro e u121 ⟨rfl, hx122⟩
                  simp only []
                  have HSR124 := Lib.hid (HSR117.out.mv (Mv.of_ext hx122) hg104b)
                  have HNX125 := Lib.hid (HNX118.out.mv (Mv.of_ext hx122) hgb6)
                  have HHT126 := Lib.hid (HHT119.out.mv (Mv.of_ext hx122) hbW)
                  have HHT127 := Lib.hid (HHT120.out.mv (Mv.of_ext hx122) hbW)
                  have HRW128 := Lib.hid (fun k n s => (HN116.out k n s).mv (Mv.of_ext hx122) hbW)
                  have HA123 := Lib.hid (HA115.out.ext hx122)
                  refine NextE.go (Z := Kp b W.heap.size) (u := u112) hK (Kp.of_ext _ hx122) (fun _ h9 => (Kp.of_ext _ hx122).trans h9) ?_
                  clear hK K
                  (try simp only [Act.put, sA, sZ, sS])
                  try clear hx122
                  refine one (i := 15) (fun K hK => ?_)
                  obtain ⟨_, z0, z1, z2, z3, z4, z5, z6, z7⟩ := HA123.out.nx.nb
                  simp only [List.getElem_toArray, List.getElem_cons_succ, List.getElem_cons_zero]
                  go_simp
                  refine hK.out _ _ ⟨fun _ => trivial, Kp.set4 _ _ _ _⟩ (fun _ => ?_)
                  clear hK K
                  (try simp only [Act.put, sA, sZ, sS])
                  refine wpE_done (by kernel_rfl) ?_ _
                  go_wp2_with fail
                  refine bodyPost_ret (v := .agg #[.int .i64 (7 + (k5 : Int)), .int .i64 0, .string S111, .slice (some ⟨g114, 0, none⟩) 2 2]) (by simp [results, Tryz.results46, go_sem, *]) rfl ?_
                  exact HA123.out.fin (by have := FN_up h1; omega) ⟨7 + (k5 : Int), 0, S111, some ⟨g114, 0, none⟩, 2, 2⟩ (.nd (7 + (k5 : Int)) 0 s110 [t1, t98]) (by rw [ES111.out]; exact HRW128.out _ 0 s110) (.up h1 (.aft2 (by omega) Ms110.out HGt1.out.1 HGt98.out.1) (by have := HGt98.out.2; have := HGt1.out.2; simp only [tszs]; omega))
                · skip
                  simp only [List.getElem_toArray, List.getElem_cons_succ, List.getElem_cons_zero]
                  go_simp
                  have hx130 : Ext u94 (u94.alloc (.cells #[.int .i64 d1.k, .int .i64 d1.n, .string d1.s, .slice d1.A d1.m d1.c, .int .i64 d97.k, .int .i64 d97.n, .string d97.s, .slice d97.A d97.m d97.c] 31)) := (Ext.refl _).alloc _
                  have hn9 : ∀ (k n : Int) (s : List UInt8), HT W (u94.alloc (.cells #[.int .i64 d1.k, .int .i64 d1.n, .string d1.s, .slice d1.A d1.m d1.c, .int .i64 d97.k, .int .i64 d97.n, .string d97.s, .slice d97.A d97.m d97.c] 31)) ⟨k, n, bs s, some ⟨u94.heap.size, 0, none⟩, 2, 2⟩ (.nd k n s [t1, t98]) := fun k n s => HT.node HA96.out.sz k n s [d1, d97] [t1, t98] #[.int .i64 d1.k, .int .i64 d1.n, .string d1.s, .slice d1.A d1.m d1.c, .int .i64 d97.k, .int .i64 d97.n, .string d97.s, .slice d97.A d97.m d97.c] 2 rfl rfl (HT.kids2 HHT101.out HR99.out)
                  obtain ⟨u129, hu9⟩ : ∃ x, x = u94.alloc (.cells #[.int .i64 d1.k, .int .i64 d1.n, .string d1.s, .slice d1.A d1.m d1.c, .int .i64 d97.k, .int .i64 d97.n, .string d97.s, .slice d97.A d97.m d97.c] 31) := ⟨_, rfl⟩
                  obtain ⟨g131, hg131⟩ : ∃ x, x = u94.heap.size := ⟨_, rfl⟩
                  have hg131b : g131 ≠ b := by have := HA96.out.sz; omega
                  have hg131W : g131 ≠ W.heap.size := by have := HA96.out.sz; omega
                  rw [← hu9, ← hg131] at hn9
                  rw [← hu9] at hx130 ⊢
                  rw [← hg131]
                  have HA132 := Lib.hid (HA96.out.ext hx130)
                  have HN133 := Lib.hid hn9
                  clear hu9 hn9 hg131
                  have HNX134 := Lib.hid (HNX100.out.mv (Mv.of_ext hx130) hgb6)
                  have HHT135 := Lib.hid (HHT101.out.mv (Mv.of_ext hx130) hbW)
                  have HHT136 := Lib.hid (HR99.out.mv (Mv.of_ext hx130) hbW)
                  refine NextE.go (Z := Kp b W.heap.size) (u := u94) hK (Kp.of_ext _ hx130) (fun _ h9 => (Kp.of_ext _ hx130).trans h9) ?_
                  clear hK K
                  (try simp only [Act.put, sA, sZ, sS])
                  try clear hx130
                  refine one (i := 3) (fun K hK => ?_)
                  simp only [List.getElem_toArray, List.getElem_cons_succ, List.getElem_cons_zero]
                  go_simp
                  have hx138 : Ext u129 (u129.alloc (.cells #[.string ⟨#[100, 97, 121, 115]⟩, .string ⟨#[119, 101, 101, 107, 115]⟩, .string ⟨#[109, 111, 110, 116, 104, 115]⟩, .string ⟨#[99, 111, 117, 114, 116, 100, 97, 121, 115]⟩] 9)) := (Ext.refl _).alloc _
                  have hn9 := SR.new u129 [wDays, wWeeks, wMonths, wCourtdays] #[.string ⟨#[100, 97, 121, 115]⟩, .string ⟨#[119, 101, 101, 107, 115]⟩, .string ⟨#[109, 111, 110, 116, 104, 115]⟩, .string ⟨#[99, 111, 117, 114, 116, 100, 97, 121, 115]⟩] rfl
                  obtain ⟨u137, hu9⟩ : ∃ x, x = u129.alloc (.cells #[.string ⟨#[100, 97, 121, 115]⟩, .string ⟨#[119, 101, 101, 107, 115]⟩, .string ⟨#[109, 111, 110, 116, 104, 115]⟩, .string ⟨#[99, 111, 117, 114, 116, 100, 97, 121, 115]⟩] 9) := ⟨_, rfl⟩
                  obtain ⟨g139, hg139⟩ : ∃ x, x = u129.heap.size := ⟨_, rfl⟩
                  have hg139b : g139 ≠ b := by have := HA132.out.sz; omega
                  have hg139W : g139 ≠ W.heap.size := by have := HA132.out.sz; omega
                  rw [← hu9, ← hg139] at hn9
                  rw [← hu9] at hx138 ⊢
                  rw [← hg139]
                  have HA140 := Lib.hid (HA132.out.ext hx138)
                  have HN141 := Lib.hid hn9
                  clear hu9 hn9 hg139
                  have HNX142 := Lib.hid (HNX134.out.mv (Mv.of_ext hx138) hgb6)
                  have HHT143 := Lib.hid (HHT135.out.mv (Mv.of_ext hx138) hbW)
                  have HHT144 := Lib.hid (HHT136.out.mv (Mv.of_ext hx138) hbW)
                  have HRW145 := Lib.hid (fun k n s => (HN133.out k n s).mv (Mv.of_ext hx138) hbW)
                  obtain ⟨s146, hs146⟩ : ∃ s, ([wDays, wWeeks, wMonths, wCourtdays] : List (List UInt8))[k53]? = some s := ⟨_, List.getElem?_eq_getElem (by simpa using hk53)⟩
                  have Ms146 := Lib.hid (List.mem_of_getElem? hs146)
                  have Gs146 := Lib.hid hs146
                  obtain ⟨S147, hS147⟩ : ∃ S, S = bs s146 := ⟨_, rfl⟩
                  have ES147 := Lib.hid hS147
                  clear hs146 hS147
                  refine NextE.go (Z := Kp b W.heap.size) (u := u129) hK (Kp.of_ext _ hx138) (fun _ h9 => (Kp.of_ext _ hx138).trans h9) ?_
                  clear hK K
                  (try simp only [Act.put, sA, sZ, sS])
                  try clear hx138
                  refine tkA (i := 6) (d := some 69) (v := ?_) (Kp.refl _ _ _) ?_ ?_; rotate_left
                  · (intro w9 hT9; clear hT9; go_simp; try with_reducible rfl)
                  (try simp only [Act.put, sA, sZ, sS])
                  refine tkA (i := 7) (d := some 70) (v := ?_) (Kp.refl _ _ _) ?_ ?_; rotate_left
                  · (intro w9 hT9; have q9 := (HN141.out.kp hT9 hg139b hg139W).at_ _ _ Gs146.out; rw [← ES147.out] at q9; go_simp; try with_reducible rfl)
                  (try simp only [Act.put, sA, sZ, sS])
                  refine one (i := 14) (fun K hK => ?_)
                  simp only [List.getElem_toArray, List.getElem_cons_succ, List.getElem_cons_zero]
                  go_simp
                  go_at_call 96
                  refine (mnode_any _ _ _ _ _ _).mono ?_
                  rintro e u148 ⟨rfl, hx149⟩
                  simp only []
                  have HSR151 := Lib.hid (HN141.out.mv (Mv.of_ext hx149) hg139b)
                  have HNX152 := Lib.hid (HNX142.out.mv (Mv.of_ext hx149) hgb6)
                  have HHT153 := Lib.hid (HHT143.out.mv (Mv.of_ext hx149) hbW)
                  have HHT154 := Lib.hid (HHT144.out.mv (Mv.of_ext hx149) hbW)
                  have HRW155 := Lib.hid (fun k n s => (HRW145.out k n s).mv (Mv.of_ext hx149) hbW)
                  have HA150 := Lib.hid (HA140.out.ext hx149)
                  refine NextE.go (Z := Kp b W.heap.size) (u := u137) hK (Kp.of_ext _ hx149) (fun _ h9 => (Kp.of_ext _ hx149).trans h9) ?_
                  clear hK K
                  (try simp only [Act.put, sA, sZ, sS])
                  try clear hx149
                  refine one (i := 15) (fun K hK => ?_)
                  obtain ⟨_, z0, z1, z2, z3, z4, z5, z6, z7⟩ := HA150.out.nx.nb
                  simp only [List.getElem_toArray, List.getElem_cons_succ, List.getElem_cons_zero]
                  go_simp
                  refine hK.out _ _ ⟨fun _ => trivial, Kp.set4 _ _ _ _⟩ (fun _ => ?_)
                  clear hK K
                  (try simp only [Act.put, sA, sZ, sS])
                  refine wpE_done (by kernel_rfl) ?_ _
                  go_wp2_with fail
                  refine bodyPost_ret (v := .agg #[.int .i64 (7 + (k5 : Int)), .int .i64 0, .string S147, .slice (some ⟨g131, 0, none⟩) 2 2]) (by simp [results, Tryz.results46, go_sem, *]) rfl ?_
                  exact HA150.out.fin (by have := FN_up h1; omega) ⟨7 + (k5 : Int), 0, S147, some ⟨g131, 0, none⟩, 2, 2⟩ (.nd (7 + (k5 : Int)) 0 s146 [t1, t98]) (by rw [ES147.out]; exact HRW155.out _ 0 s146) (.up h1 (.aft2 (by omega) Ms146.out HGt1.out.1 HGt98.out.1) (by have := HGt98.out.2; have := HGt1.out.2; simp only [tszs]; omega))
          · skip
            simp only [List.getElem_toArray, List.getElem_cons_succ, List.getElem_cons_zero]
            go_simp
            have hx157 : Ext u1 (u1.alloc (.cells #[.string ⟨#[100, 97, 121, 115]⟩, .string ⟨#[119, 101, 101, 107, 115]⟩, .string ⟨#[109, 111, 110, 116, 104, 115]⟩, .string ⟨#[99, 111, 117, 114, 116, 100, 97, 121, 115]⟩] 9)) := (Ext.refl _).alloc _
            have hn9 := SR.new u1 [wDays, wWeeks, wMonths, wCourtdays] #[.string ⟨#[100, 97, 121, 115]⟩, .string ⟨#[119, 101, 101, 107, 115]⟩, .string ⟨#[109, 111, 110, 116, 104, 115]⟩, .string ⟨#[99, 111, 117, 114, 116, 100, 97, 121, 115]⟩] rfl
            obtain ⟨u156, hu9⟩ : ∃ x, x = u1.alloc (.cells #[.string ⟨#[100, 97, 121, 115]⟩, .string ⟨#[119, 101, 101, 107, 115]⟩, .string ⟨#[109, 111, 110, 116, 104, 115]⟩, .string ⟨#[99, 111, 117, 114, 116, 100, 97, 121, 115]⟩] 9) := ⟨_, rfl⟩
            obtain ⟨g158, hg158⟩ : ∃ x, x = u1.heap.size := ⟨_, rfl⟩
            have hg158b : g158 ≠ b := by have := HA2.out.sz; omega
            have hg158W : g158 ≠ W.heap.size := by have := HA2.out.sz; omega
            rw [← hu9, ← hg158] at hn9
            rw [← hu9] at hx157 ⊢
            rw [← hg158]
            have HA159 := Lib.hid (HA2.out.ext hx157)
            have HN160 := Lib.hid hn9
            clear hu9 hn9 hg158
            have HNX161 := Lib.hid (HNX3.out.mv (Mv.of_ext hx157) hgb6)
            have HHT162 := Lib.hid (HHT4.out.mv (Mv.of_ext hx157) hbW)
            refine NextE.go (Z := Kp b W.heap.size) (u := u1) hK (Kp.of_ext _ hx157) (fun _ h9 => (Kp.of_ext _ hx157).trans h9) ?_
            clear hK K
            (try simp only [Act.put, sA, sZ, sS])
            try clear hx157
            refine one (i := 1) (fun K hK => ?_)
            simp only [List.getElem_toArray, List.getElem_cons_succ, List.getElem_cons_zero]
            go_simp
            go_at_call 44
            refine (HA159.out.nextI (by have := FN_up h1; omega) 2 2 rfl (by decide) (by decide)).mono ?_
            rintro e u164 ⟨k163, rfl, hk163, ha9, hm165⟩
            have HA166 := Lib.hid ha9
            clear ha9
            simp only []
            have hk163I : (k163 : Int) < 2 := by omega
            have hk163J : (0 : Int) ≤ (k163 : Int) := Int.natCast_nonneg _
            have hk163W : IntKind.i64.wrap (7 + (k163 : Int)) = 7 + (k163 : Int) := IntWalk.i64_in _ (by omega)
            have HSR167 := Lib.hid (HN160.out.mv hm165 hg158b)
            have HNX168 := Lib.hid (HNX161.out.mv hm165 hgb6)
            have HHT169 := Lib.hid (HHT162.out.mv hm165 hbW)
            refine NextE.go (Z := Kp b W.heap.size) (u := u156) hK (Kp.of_mv _ hm165) (fun _ h9 => (Kp.of_mv _ hm165).trans h9) ?_
            clear hK K
            (try simp only [Act.put, sA, sZ, sS])
            try clear hm165
            refine tkA (i := 2) (d := some 65) (v := ?_) (Kp.refl _ _ _) ?_ ?_; rotate_left
            · (intro w9 hT9; clear hT9; go_simp; try with_reducible rfl)
            (try simp only [Act.put, sA, sZ, sS])
            refine one (i := 5) (fun K hK => ?_)
            simp only [List.getElem_toArray, List.getElem_cons_succ, List.getElem_cons_zero]
            go_simp
            go_at_call 44
            refine (HA166.out.nextI (by have := FN_up h1; omega) 4 4 rfl (by decide) (by decide)).mono ?_
            rintro e u171 ⟨k170, rfl, hk170, ha9, hm172⟩
            have HA173 := Lib.hid ha9
            clear ha9
            simp only []
            have hk170I : (k170 : Int) < 4 := by omega
            have hk170J : (0 : Int) ≤ (k170 : Int) := Int.natCast_nonneg _
            have HSR174 := Lib.hid (HSR167.out.mv hm172 hg158b)
            have HNX175 := Lib.hid (HNX168.out.mv hm172 hgb6)
            have HHT176 := Lib.hid (HHT169.out.mv hm172 hbW)
            obtain ⟨s177, hs177⟩ : ∃ s, ([wDays, wWeeks, wMonths, wCourtdays] : List (List UInt8))[k170]? = some s := ⟨_, List.getElem?_eq_getElem (by simpa using hk170)⟩
            have Ms177 := Lib.hid (List.mem_of_getElem? hs177)
            have Gs177 := Lib.hid hs177
            obtain ⟨S178, hS178⟩ : ∃ S, S = bs s177 := ⟨_, rfl⟩
            have ES178 := Lib.hid hS178
            clear hs177 hS178
            refine NextE.go (Z := Kp b W.heap.size) (u := u164) hK (Kp.of_mv _ hm172) (fun _ h9 => (Kp.of_mv _ hm172).trans h9) ?_
            clear hK K
            (try simp only [Act.put, sA, sZ, sS])
            try clear hm172
            refine tkA (i := 6) (d := some 69) (v := ?_) (Kp.refl _ _ _) ?_ ?_; rotate_left
            · (intro w9 hT9; clear hT9; go_simp; try with_reducible rfl)
            (try simp only [Act.put, sA, sZ, sS])
            refine tkA (i := 7) (d := some 70) (v := ?_) (Kp.refl _ _ _) ?_ ?_; rotate_left
            · (intro w9 hT9; have q9 := (HSR174.out.kp hT9 hg158b hg158W).at_ _ _ Gs177.out; rw [← ES178.out] at q9; go_simp; try with_reducible rfl)
            (try simp only [Act.put, sA, sZ, sS])
            refine one (i := 12) (fun K hK => ?_)
            simp only [List.getElem_toArray, List.getElem_cons_succ, List.getElem_cons_zero]
            go_simp
            go_at_call 46
            refine (HSUB.out h1 _ _ HA173.out (by have := FN_up h1; omega)).mono ?_
            rintro e u179 hp9
            obtain ⟨d182, t183, rfl, hr9, hg9, ha9, hm180⟩ := HA173.out.sub hp9
            have HA181 := Lib.hid ha9
            have HR184 := Lib.hid hr9
            have HGt183 := Lib.hid hg9
            clear hp9 ha9 hr9 hg9
            simp only []
            have HSR185 := Lib.hid (HSR174.out.mv hm180 hg158b)
            have HNX186 := Lib.hid (HNX175.out.mv hm180 hgb6)
            have HHT187 := Lib.hid (HHT176.out.mv hm180 hbW)
            refine NextE.go (Z := Kp b W.heap.size) (u := u171) hK (Kp.of_mv _ hm180) (fun _ h9 => (Kp.of_mv _ hm180).trans h9) ?_
            clear hK K
            (try simp only [Act.put, sA, sZ, sS])
            try clear hm180
            refine one (i := 13) (fun K hK => ?_)
            simp only [List.getElem_toArray, List.getElem_cons_succ, List.getElem_cons_zero]
            go_simp
            have hx189 : Ext u179 (u179.alloc (.cells #[.int .i64 d1.k, .int .i64 d1.n, .string d1.s, .slice d1.A d1.m d1.c, .int .i64 d182.k, .int .i64 d182.n, .string d182.s, .slice d182.A d182.m d182.c] 31)) := (Ext.refl _).alloc _
            have hn9 : ∀ (k n : Int) (s : List UInt8), HT W (u179.alloc (.cells #[.int .i64 d1.k, .int .i64 d1.n, .string d1.s, .slice d1.A d1.m d1.c, .int .i64 d182.k, .int .i64 d182.n, .string d182.s, .slice d182.A d182.m d182.c] 31)) ⟨k, n, bs s, some ⟨u179.heap.size, 0, none⟩, 2, 2⟩ (.nd k n s [t1, t183]) := fun k n s => HT.node HA181.out.sz k n s [d1, d182] [t1, t183] #[.int .i64 d1.k, .int .i64 d1.n, .string d1.s, .slice d1.A d1.m d1.c, .int .i64 d182.k, .int .i64 d182.n, .string d182.s, .slice d182.A d182.m d182.c] 2 rfl rfl (HT.kids2 HHT187.out HR184.out)
            obtain ⟨u188, hu9⟩ : ∃ x, x = u179.alloc (.cells #[.int .i64 d1.k, .int .i64 d1.n, .string d1.s, .slice d1.A d1.m d1.c, .int .i64 d182.k, .int .i64 d182.n, .string d182.s, .slice d182.A d182.m d182.c] 31) := ⟨_, rfl⟩
            obtain ⟨g190, hg190⟩ : ∃ x, x = u179.heap.size := ⟨_, rfl⟩
            have hg190b : g190 ≠ b := by have := HA181.out.sz; omega
            have hg190W : g190 ≠ W.heap.size := by have := HA181.out.sz; omega
            rw [← hu9, ← hg190] at hn9
            rw [← hu9] at hx189 ⊢
            rw [← hg190]
            have HA191 := Lib.hid (HA181.out.ext hx189)
            have HN192 := Lib.hid hn9
            clear hu9 hn9 hg190
            have HSR193 := Lib.hid (HSR185.out.mv (Mv.of_ext hx189) hg158b)
            have HNX194 := Lib.hid (HNX186.out.mv (Mv.of_ext hx189) hgb6)
            have HHT195 := Lib.hid (HHT187.out.mv (Mv.of_ext hx189) hbW)
            have HHT196 := Lib.hid (HR184.out.mv (Mv.of_ext hx189) hbW)
            refine NextE.go (Z := Kp b W.heap.size) (u := u179) hK (Kp.of_ext _ hx189) (fun _ h9 => (Kp.of_ext _ hx189).trans h9) ?_
            clear hK K
            (try simp only [Act.put, sA, sZ, sS])
            try clear hx189
            refine one (i := 14) (fun K hK => ?_)
            simp only [List.getElem_toArray, List.getElem_cons_succ, List.getElem_cons_zero]
            go_simp
            go_at_call 96
            refine (mnode_any _ _ _ _ _ _).mono ?_
            rintro e u197 ⟨rfl, hx198⟩
            simp only []
            have HSR200 := Lib.hid (HSR193.out.mv (Mv.of_ext hx198) hg158b)
            have HNX201 := Lib.hid (HNX194.out.mv (Mv.of_ext hx198) hgb6)
            have HHT202 := Lib.hid (HHT195.out.mv (Mv.of_ext hx198) hbW)
            have HHT203 := Lib.hid (HHT196.out.mv (Mv.of_ext hx198) hbW)
            have HRW204 := Lib.hid (fun k n s => (HN192.out k n s).mv (Mv.of_ext hx198) hbW)
            have HA199 := Lib.hid (HA191.out.ext hx198)
            refine NextE.go (Z := Kp b W.heap.size) (u := u188) hK (Kp.of_ext _ hx198) (fun _ h9 => (Kp.of_ext _ hx198).trans h9) ?_
            clear hK K
            (try simp only [Act.put, sA, sZ, sS])
            try clear hx198
            refine one (i := 15) (fun K hK => ?_)
            obtain ⟨_, z0, z1, z2, z3, z4, z5, z6, z7⟩ := HA199.out.nx.nb
            simp only [List.getElem_toArray, List.getElem_cons_succ, List.getElem_cons_zero]
            go_simp
            refine hK.out _ _ ⟨fun _ => trivial, Kp.set4 _ _ _ _⟩ (fun _ => ?_)
            clear hK K
            (try simp only [Act.put, sA, sZ, sS])
            refine wpE_done (by kernel_rfl) ?_ _
            go_wp2_with fail
            refine bodyPost_ret (v := .agg #[.int .i64 (7 + (k163 : Int)), .int .i64 0, .string S178, .slice (some ⟨g190, 0, none⟩) 2 2]) (by simp [results, Tryz.results46, go_sem, *]) rfl ?_
            exact HA199.out.fin (by have := FN_up h1; omega) ⟨7 + (k163 : Int), 0, S178, some ⟨g190, 0, none⟩, 2, 2⟩ (.nd (7 + (k163 : Int)) 0 s177 [t1, t183]) (by rw [ES178.out]; exact HRW204.out _ 0 s177) (.up h1 (.aft2 (by omega) Ms177.out HGt1.out.1 HGt183.out.1) (by have := HGt183.out.2; have := HGt1.out.2; simp only [tszs]; omega)))
      · have h1I : (1 : Int) ≤ (deep : Int) := by omega
        have hwd : IntKind.i64.wrap ((deep : Int) - 1) = (deep : Int) - 1 := IntWalk.i64_in _ (by omega)
        go_upto_region 21 with (first | (go_at_call 46; refine (HSUB.out h1 _ _ HA.out (by have := FN_up h1; omega)).mono ?_; rintro e u1 hp; obtain ⟨d1, t1, rfl, hr1, hg1, ha1, hm1⟩ := HA.out.sub hp; have HA1 := Lib.hid ha1; have HR1 := Lib.hid hr1; have HGt1 := Lib.hid hg1; clear hp ha1 hr1 hg1))
        have hx6 : Ext u1 (u1.alloc (.cells #[.int .i64 d1.k, .int .i64 d1.n, .string d1.s, .slice d1.A d1.m d1.c] 31)) := (Ext.refl _).alloc _
        have hc6 : NX (u1.alloc (.cells #[.int .i64 d1.k, .int .i64 d1.n, .string d1.s, .slice d1.A d1.m d1.c] 31)) u1.heap.size d1.k d1.n d1.s (.slice d1.A d1.m d1.c) := heap_alloc_new _ _
        generalize u1.alloc (.cells #[.int .i64 d1.k, .int .i64 d1.n, .string d1.s, .slice d1.A d1.m d1.c] 31) = w6 at *
        have hgb6 : u1.heap.size ≠ b := by have := HA1.out.sz; omega
        have hgW6 : u1.heap.size ≠ W.heap.size := by have := HA1.out.sz; omega
        generalize u1.heap.size = g6 at *
        have HC6 := Lib.hid hc6
        have HB6 := Lib.hid (HA1.out.ext hx6)
        have HR6 := Lib.hid (HR1.out.mv (Mv.of_ext hx6) hbW)
        clear hc6 hx6
        go_upto_region 22 with (first | (go_at_call 46; refine (HSUB.out h1 _ _ HB6.out (by have := FN_up h1; omega)).mono ?_; rintro e u2 hp; obtain ⟨d2, t2, rfl, hr2, hg2, ha2, hm2⟩ := HB6.out.sub hp; have HA2 := Lib.hid ha2; have HR2 := Lib.hid hr2; have HGt2 := Lib.hid hg2; have HC7 := Lib.hid (HC6.out.mv hm2 hgb6); have HR7 := Lib.hid (HR6.out.mv hm2 hbW); clear hp ha2 hr2 hg2))
        have hx8 : Ext u2 (u2.alloc (.cells #[.int .i64 d2.k, .int .i64 d2.n, .string d2.s, .slice d2.A d2.m d2.c] 31)) := (Ext.refl _).alloc _
        have hc8 : NX (u2.alloc (.cells #[.int .i64 d2.k, .int .i64 d2.n, .string d2.s, .slice d2.A d2.m d2.c] 31)) u2.heap.size d2.k d2.n d2.s (.slice d2.A d2.m d2.c) := heap_alloc_new _ _
        generalize u2.alloc (.cells #[.int .i64 d2.k, .int .i64 d2.n, .string d2.s, .slice d2.A d2.m d2.c] 31) = w8 at *
        have hgb8 : u2.heap.size ≠ b := by have := HA2.out.sz; omega
        have hgW8 : u2.heap.size ≠ W.heap.size := by have := HA2.out.sz; omega
        generalize u2.heap.size = g8 at *
        have HC8 := Lib.hid hc8
        have HB8 := Lib.hid (HA2.out.ext hx8)
        have HC9 := Lib.hid (HC7.out.mv (Mv.of_ext hx8) hgb6)
        have HR9 := Lib.hid (HR7.out.mv (Mv.of_ext hx8) hbW)
        have HR8 := Lib.hid (HR2.out.mv (Mv.of_ext hx8) hbW)
        clear hc8 hx8
        refine wp_region_E (fun _ => True) (fun X => Kp b W.heap.size w8 X) (fun _ => true) (by kernel_rfl) ?_
        obtain ⟨u1, hu9, hx9⟩ : ∃ x, w8.drew = x ∧ Ext w8 x := ⟨_, rfl, (Ext.refl _).drew⟩
        rw [hu9]
        clear hu9
        have HNX3 := Lib.hid (HC9.out.mv (Mv.of_ext hx9) hgb6)
        have HNX4 := Lib.hid (HC8.out.mv (Mv.of_ext hx9) hgb8)
        have HHT5 := Lib.hid (HR9.out.mv (Mv.of_ext hx9) hbW)
        have HHT6 := Lib.hid (HR8.out.mv (Mv.of_ext hx9) hbW)
        have HA2 := Lib.hid (HB8.out.ext hx9)
        refine wpE_strong (T' := fun X => Kp b W.heap.size u1 X) (fun _ h9 => (Kp.of_ext _ hx9).trans h9) _ _ _ _ ?_
        clear hx9
        refine tkA (i := 0) (d := some 88) (v := ?_) (Kp.refl _ _ _) ?_ ?_; rotate_left
        · (intro w9 hT9; obtain ⟨_, q0, q1, q2, q3, _, _, _, _⟩ := (HNX3.out.kp hT9 hgb6 hgW6).nb; go_simp; try with_reducible rfl)
        (try simp only [Act.put, sA, sZ, sS])
        refine tkA (i := 1) (d := some 89) (v := ?_) (Kp.refl _ _ _) ?_ ?_; rotate_left
        · (intro w9 hT9; obtain ⟨_, q0, q1, q2, q3, _, _, _, _⟩ := (HNX4.out.kp hT9 hgb8 hgW8).nb; go_simp; try with_reducible rfl)
        (try simp only [Act.put, sA, sZ, sS])
        refine tkA (i := 2) (d := some 90) (v := ?_) (Kp.refl _ _ _) ?_ ?_; rotate_left
        · (intro w9 hT9; clear hT9; go_simp; try with_reducible rfl)
        (try simp only [Act.put, sA, sZ, sS])
        refine tkA (i := 3) (d := some 91) (v := ?_) (Kp.refl _ _ _) ?_ ?_; rotate_left
        · (intro w9 hT9; clear hT9; go_simp; try with_reducible rfl)
        (try simp only [Act.put, sA, sZ, sS])
        refine tkA (i := 4) (d := some 92) (v := ?_) (Kp.refl _ _ _) ?_ ?_; rotate_left
        · (intro w9 hT9; clear hT9; go_simp; try with_reducible rfl)
        (try simp only [Act.put, sA, sZ, sS])
        refine one (i := 5) (fun K hK => ?_)
        simp only [List.getElem_toArray, List.getElem_cons_succ, List.getElem_cons_zero]
        go_simp
        go_at_call 46
        refine (HSUB.out h1 _ _ HA2.out (by have := FN_up h1; omega)).mono ?_
        rintro e u7 hp9
        obtain ⟨d10, t11, rfl, hr9, hg9, ha9, hm8⟩ := HA2.out.sub hp9
        have HA9 := Lib.hid ha9
        have HR12 := Lib.hid hr9
        have HGt11 := Lib.hid hg9
        clear hp9 ha9 hr9 hg9
        simp only []
        have HNX13 := Lib.hid (HNX3.out.mv hm8 hgb6)
        have HNX14 := Lib.hid (HNX4.out.mv hm8 hgb8)
        have HHT15 := Lib.hid (HHT5.out.mv hm8 hbW)
        have HHT16 := Lib.hid (HHT6.out.mv hm8 hbW)
        refine NextE.go (Z := Kp b W.heap.size) (u := u1) hK (Kp.of_mv _ hm8) (fun _ h9 => (Kp.of_mv _ hm8).trans h9) ?_
        clear hK K
        (try simp only [Act.put, sA, sZ, sS])
        try clear hm8
        refine one (i := 6) (fun K hK => ?_)
        simp only [List.getElem_toArray, List.getElem_cons_succ, List.getElem_cons_zero]
        go_simp
        have hx18 : Ext u7 (u7.alloc (.cells #[.int .i64 d1.k, .int .i64 d1.n, .string d1.s, .slice d1.A d1.m d1.c, .int .i64 d2.k, .int .i64 d2.n, .string d2.s, .slice d2.A d2.m d2.c, .int .i64 d10.k, .int .i64 d10.n, .string d10.s, .slice d10.A d10.m d10.c] 31)) := (Ext.refl _).alloc _
        have hn9 : ∀ (k n : Int) (s : List UInt8), HT W (u7.alloc (.cells #[.int .i64 d1.k, .int .i64 d1.n, .string d1.s, .slice d1.A d1.m d1.c, .int .i64 d2.k, .int .i64 d2.n, .string d2.s, .slice d2.A d2.m d2.c, .int .i64 d10.k, .int .i64 d10.n, .string d10.s, .slice d10.A d10.m d10.c] 31)) ⟨k, n, bs s, some ⟨u7.heap.size, 0, none⟩, 3, 3⟩ (.nd k n s [t1, t2, t11]) := fun k n s => HT.node HA9.out.sz k n s [d1, d2, d10] [t1, t2, t11] #[.int .i64 d1.k, .int .i64 d1.n, .string d1.s, .slice d1.A d1.m d1.c, .int .i64 d2.k, .int .i64 d2.n, .string d2.s, .slice d2.A d2.m d2.c, .int .i64 d10.k, .int .i64 d10.n, .string d10.s, .slice d10.A d10.m d10.c] 3 rfl rfl (HT.kids3 HHT15.out HHT16.out HR12.out)
        obtain ⟨u17, hu9⟩ : ∃ x, x = u7.alloc (.cells #[.int .i64 d1.k, .int .i64 d1.n, .string d1.s, .slice d1.A d1.m d1.c, .int .i64 d2.k, .int .i64 d2.n, .string d2.s, .slice d2.A d2.m d2.c, .int .i64 d10.k, .int .i64 d10.n, .string d10.s, .slice d10.A d10.m d10.c] 31) := ⟨_, rfl⟩
        obtain ⟨g19, hg19⟩ : ∃ x, x = u7.heap.size := ⟨_, rfl⟩
        have hg19b : g19 ≠ b := by have := HA9.out.sz; omega
        have hg19W : g19 ≠ W.heap.size := by have := HA9.out.sz; omega
        rw [← hu9, ← hg19] at hn9
        rw [← hu9] at hx18 ⊢
        rw [← hg19]
        have HA20 := Lib.hid (HA9.out.ext hx18)
        have HN21 := Lib.hid hn9
        clear hu9 hn9 hg19
        have HNX22 := Lib.hid (HNX13.out.mv (Mv.of_ext hx18) hgb6)
        have HNX23 := Lib.hid (HNX14.out.mv (Mv.of_ext hx18) hgb8)
        have HHT24 := Lib.hid (HHT15.out.mv (Mv.of_ext hx18) hbW)
        have HHT25 := Lib.hid (HHT16.out.mv (Mv.of_ext hx18) hbW)
        have HHT26 := Lib.hid (HR12.out.mv (Mv.of_ext hx18) hbW)
        refine NextE.go (Z := Kp b W.heap.size) (u := u7) hK (Kp.of_ext _ hx18) (fun _ h9 => (Kp.of_ext _ hx18).trans h9) ?_
        clear hK K
        (try simp only [Act.put, sA, sZ, sS])
        try clear hx18
        refine one (i := 7) (fun K hK => ?_)
        simp only [List.getElem_toArray, List.getElem_cons_succ, List.getElem_cons_zero]
        go_simp
        go_at_call 96
        refine (mnode_any _ _ _ _ _ _).mono ?_
        rintro e u27 ⟨rfl, hx28⟩
        simp only []
        have HNX30 := Lib.hid (HNX22.out.mv (Mv.of_ext hx28) hgb6)
        have HNX31 := Lib.hid (HNX23.out.mv (Mv.of_ext hx28) hgb8)
        have HHT32 := Lib.hid (HHT24.out.mv (Mv.of_ext hx28) hbW)
        have HHT33 := Lib.hid (HHT25.out.mv (Mv.of_ext hx28) hbW)
        have HHT34 := Lib.hid (HHT26.out.mv (Mv.of_ext hx28) hbW)
        have HRW35 := Lib.hid (fun k n s => (HN21.out k n s).mv (Mv.of_ext hx28) hbW)
        have HA29 := Lib.hid (HA20.out.ext hx28)
        refine NextE.go (Z := Kp b W.heap.size) (u := u17) hK (Kp.of_ext _ hx28) (fun _ h9 => (Kp.of_ext _ hx28).trans h9) ?_
        clear hK K
        (try simp only [Act.put, sA, sZ, sS])
        try clear hx28
        refine one (i := 8) (fun K hK => ?_)
        obtain ⟨_, z0, z1, z2, z3, z4, z5, z6, z7⟩ := HA29.out.nx.nb
        simp only [List.getElem_toArray, List.getElem_cons_succ, List.getElem_cons_zero]
        go_simp
        refine hK.out _ _ ⟨fun _ => trivial, Kp.set4 _ _ _ _⟩ (fun _ => ?_)
        clear hK K
        (try simp only [Act.put, sA, sZ, sS])
        refine wpE_done (by kernel_rfl) ?_ _
        go_wp2_with fail
        refine bodyPost_ret (v := .agg #[.int .i64 9, .int .i64 0, .string ⟨#[]⟩, .slice (some ⟨g19, 0, none⟩) 3 3]) (by simp [results, Tryz.results46, go_sem, *]) rfl ?_
        exact HA29.out.fin (by have := FN_up h1; omega) ⟨9, 0, ⟨#[]⟩, some ⟨g19, 0, none⟩, 3, 3⟩ (.nd 9 0 [] [t1, t2, t11]) (HRW35.out 9 0 []) (.up h1 (.ite2 HGt1.out.1 HGt2.out.1 HGt11.out.1) (by have := HGt11.out.2; have := HGt1.out.2; have := HGt2.out.2; simp only [tszs]; omega))
      · have h1I : (1 : Int) ≤ (deep : Int) := by omega
        have hwd : IntKind.i64.wrap ((deep : Int) - 1) = (deep : Int) - 1 := IntWalk.i64_in _ (by omega)
        go_upto_region 24 with (fail)
        refine wp_region_E (fun _ => True) (fun X => Kp b W.heap.size wc X) (fun _ => true) (by kernel_rfl) ?_
        obtain ⟨u1, hu9, hx9⟩ : ∃ x, wc.drew = x ∧ Ext wc x := ⟨_, rfl, (Ext.refl _).drew⟩
        rw [hu9]
        clear hu9
        have HA2 := Lib.hid (HA.out.ext hx9)
        refine wpE_strong (T' := fun X => Kp b W.heap.size u1 X) (fun _ h9 => (Kp.of_ext _ hx9).trans h9) _ _ _ _ ?_
        clear hx9
        refine tkA (i := 1) (d := some 99) (v := ?_) (Kp.refl _ _ _) ?_ ?_; rotate_left
        · (intro w9 hT9; clear hT9; go_simp; try with_reducible rfl)
        (try simp only [Act.put, sA, sZ, sS])
        refine tkA (i := 5) (d := some 103) (v := ?_) (Kp.refl _ _ _) ?_ ?_; rotate_left
        · (intro w9 hT9; clear hT9; go_simp; try with_reducible rfl)
        (try simp only [Act.put, sA, sZ, sS])
        refine tkA (i := 6) (d := some 104) (v := ?_) (Kp.refl _ _ _) ?_ ?_; rotate_left
        · (intro w9 hT9; clear hT9; go_simp; try with_reducible rfl)
        (try simp only [Act.put, sA, sZ, sS])
        refine tkA (i := 7) (d := some 105) (v := ?_) (Kp.refl _ _ _) ?_ ?_; rotate_left
        · (intro w9 hT9; clear hT9; go_simp; try with_reducible rfl)
        (try simp only [Act.put, sA, sZ, sS])
        refine two (i := 0) (j := 2) (fun K hK => ?_) (fun K hK => ?_)
        · skip
          simp only [List.getElem_toArray, List.getElem_cons_zero]
          go_simp
          have hx4 : Ext u1 (u1.alloc (.cells #[.string ⟨#[110, 101, 120, 116]⟩, .string ⟨#[112, 114, 101, 118]⟩] 9)) := (Ext.refl _).alloc _
          have hn9 := SR.new u1 [wNext, wPrev] #[.string ⟨#[110, 101, 120, 116]⟩, .string ⟨#[112, 114, 101, 118]⟩] rfl
          obtain ⟨u3, hu9⟩ : ∃ x, x = u1.alloc (.cells #[.string ⟨#[110, 101, 120, 116]⟩, .string ⟨#[112, 114, 101, 118]⟩] 9) := ⟨_, rfl⟩
          obtain ⟨g5, hg5⟩ : ∃ x, x = u1.heap.size := ⟨_, rfl⟩
          have hg5b : g5 ≠ b := by have := HA2.out.sz; omega
          have hg5W : g5 ≠ W.heap.size := by have := HA2.out.sz; omega
          rw [← hu9, ← hg5] at hn9
          rw [← hu9] at hx4 ⊢
          rw [← hg5]
          have HA6 := Lib.hid (HA2.out.ext hx4)
          have HN7 := Lib.hid hn9
          clear hu9 hn9 hg5
          refine NextE.go (Z := Kp b W.heap.size) (u := u1) hK (Kp.of_ext _ hx4) (fun _ h9 => (Kp.of_ext _ hx4).trans h9) ?_
          clear hK K
          (try simp only [Act.put, sA, sZ, sS])
          try clear hx4
          refine one (i := 2) (fun K hK => ?_)
          simp only [List.getElem_toArray, List.getElem_cons_succ, List.getElem_cons_zero]
          go_simp
          go_at_call 44
          refine (HA6.out.nextI (by have := FN_up h1; omega) 2 2 rfl (by decide) (by decide)).mono ?_
          rintro e u9 ⟨k8, rfl, hk8, ha9, hm10⟩
          have HA11 := Lib.hid ha9
          clear ha9
          simp only []
          have hk8I : (k8 : Int) < 2 := by omega
          have hk8J : (0 : Int) ≤ (k8 : Int) := Int.natCast_nonneg _
          have HSR12 := Lib.hid (HN7.out.mv hm10 hg5b)
          obtain ⟨s13, hs13⟩ : ∃ s, ([wNext, wPrev] : List (List UInt8))[k8]? = some s := ⟨_, List.getElem?_eq_getElem (by simpa using hk8)⟩
          have Ms13 := Lib.hid (List.mem_of_getElem? hs13)
          have Gs13 := Lib.hid hs13
          obtain ⟨S14, hS14⟩ : ∃ S, S = bs s13 := ⟨_, rfl⟩
          have ES14 := Lib.hid hS14
          clear hs13 hS14
          refine NextE.go (Z := Kp b W.heap.size) (u := u3) hK (Kp.of_mv _ hm10) (fun _ h9 => (Kp.of_mv _ hm10).trans h9) ?_
          clear hK K
          (try simp only [Act.put, sA, sZ, sS])
          try clear hm10
          refine tkA (i := 3) (d := some 101) (v := ?_) (Kp.refl _ _ _) ?_ ?_; rotate_left
          · (intro w9 hT9; clear hT9; go_simp; try with_reducible rfl)
          (try simp only [Act.put, sA, sZ, sS])
          refine tkA (i := 4) (d := some 102) (v := ?_) (Kp.refl _ _ _) ?_ ?_; rotate_left
          · (intro w9 hT9; have q9 := (HSR12.out.kp hT9 hg5b hg5W).at_ _ _ Gs13.out; rw [← ES14.out] at q9; go_simp; try with_reducible rfl)
          (try simp only [Act.put, sA, sZ, sS])
          refine one (i := 8) (fun K hK => ?_)
          simp only [List.getElem_toArray, List.getElem_cons_succ, List.getElem_cons_zero]
          go_simp
          go_at_call 46
          refine (HSUB.out h1 _ _ HA11.out (by have := FN_up h1; omega)).mono ?_
          rintro e u15 hp9
          obtain ⟨d18, t19, rfl, hr9, hg9, ha9, hm16⟩ := HA11.out.sub hp9
          have HA17 := Lib.hid ha9
          have HR20 := Lib.hid hr9
          have HGt19 := Lib.hid hg9
          clear hp9 ha9 hr9 hg9
          simp only []
          have HSR21 := Lib.hid (HSR12.out.mv hm16 hg5b)
          refine NextE.go (Z := Kp b W.heap.size) (u := u9) hK (Kp.of_mv _ hm16) (fun _ h9 => (Kp.of_mv _ hm16).trans h9) ?_
          clear hK K
          (try simp only [Act.put, sA, sZ, sS])
          try clear hm16
          refine one (i := 9) (fun K hK => ?_)
          simp only [List.getElem_toArray, List.getElem_cons_succ, List.getElem_cons_zero]
          go_simp
          have hx23 : Ext u15 (u15.alloc (.cells #[.int .i64 d18.k, .int .i64 d18.n, .string d18.s, .slice d18.A d18.m d18.c] 31)) := (Ext.refl _).alloc _
          have hn9 : ∀ (k n : Int) (s : List UInt8), HT W (u15.alloc (.cells #[.int .i64 d18.k, .int .i64 d18.n, .string d18.s, .slice d18.A d18.m d18.c] 31)) ⟨k, n, bs s, some ⟨u15.heap.size, 0, none⟩, 1, 1⟩ (.nd k n s [t19]) := fun k n s => HT.node HA17.out.sz k n s [d18] [t19] #[.int .i64 d18.k, .int .i64 d18.n, .string d18.s, .slice d18.A d18.m d18.c] 1 rfl rfl (HT.kids1 HR20.out)
          obtain ⟨u22, hu9⟩ : ∃ x, x = u15.alloc (.cells #[.int .i64 d18.k, .int .i64 d18.n, .string d18.s, .slice d18.A d18.m d18.c] 31) := ⟨_, rfl⟩
          obtain ⟨g24, hg24⟩ : ∃ x, x = u15.heap.size := ⟨_, rfl⟩
          have hg24b : g24 ≠ b := by have := HA17.out.sz; omega
          have hg24W : g24 ≠ W.heap.size := by have := HA17.out.sz; omega
          rw [← hu9, ← hg24] at hn9
          rw [← hu9] at hx23 ⊢
          rw [← hg24]
          have HA25 := Lib.hid (HA17.out.ext hx23)
          have HN26 := Lib.hid hn9
          clear hu9 hn9 hg24
          have HSR27 := Lib.hid (HSR21.out.mv (Mv.of_ext hx23) hg5b)
          have HHT28 := Lib.hid (HR20.out.mv (Mv.of_ext hx23) hbW)
          refine NextE.go (Z := Kp b W.heap.size) (u := u15) hK (Kp.of_ext _ hx23) (fun _ h9 => (Kp.of_ext _ hx23).trans h9) ?_
          clear hK K
          (try simp only [Act.put, sA, sZ, sS])
          try clear hx23
          refine one (i := 10) (fun K hK => ?_)
          simp only [List.getElem_toArray, List.getElem_cons_succ, List.getElem_cons_zero]
          go_simp
          go_at_call 96
          refine (mnode_any _ _ _ _ _ _).mono ?_
          rintro e u29 ⟨rfl, hx30⟩
          simp only []
          have HSR32 := Lib.hid (HSR27.out.mv (Mv.of_ext hx30) hg5b)
          have HHT33 := Lib.hid (HHT28.out.mv (Mv.of_ext hx30) hbW)
          have HRW34 := Lib.hid (fun k n s => (HN26.out k n s).mv (Mv.of_ext hx30) hbW)
          have HA31 := Lib.hid (HA25.out.ext hx30)
          refine NextE.go (Z := Kp b W.heap.size) (u := u22) hK (Kp.of_ext _ hx30) (fun _ h9 => (Kp.of_ext _ hx30).trans h9) ?_
          clear hK K
          (try simp only [Act.put, sA, sZ, sS])
          try clear hx30
          refine one (i := 11) (fun K hK => ?_)
          obtain ⟨_, z0, z1, z2, z3, z4, z5, z6, z7⟩ := HA31.out.nx.nb
          simp only [List.getElem_toArray, List.getElem_cons_succ, List.getElem_cons_zero]
          go_simp
          refine hK.out _ _ ⟨fun _ => trivial, Kp.set4 _ _ _ _⟩ (fun _ => ?_)
          clear hK K
          (try simp only [Act.put, sA, sZ, sS])
          refine wpE_done (by kernel_rfl) ?_ _
          go_wp2_with fail
          refine bodyPost_ret (v := .agg #[.int .i64 10, .int .i64 0, .string S14, .slice (some ⟨g24, 0, none⟩) 1 1]) (by simp [results, Tryz.results46, go_sem, *]) rfl ?_
          exact HA31.out.fin (by have := FN_up h1; omega) ⟨10, 0, S14, some ⟨g24, 0, none⟩, 1, 1⟩ (.nd 10 0 s13 [t19]) (by rw [ES14.out]; exact HRW34.out 10 0 s13) (.up h1 (.call12 (by have := Ms13.out; revert this; simp [functions]; rintro (h | h) <;> simp [h]) (by have := Ms13.out; revert this; simp; rintro (h | h) <;> rw [h] <;> decide) HGt19.out.1) (by have := HGt19.out.2; simp only [tszs]; omega))
        · skip
          simp only [List.getElem_toArray, List.getElem_cons_succ, List.getElem_cons_zero]
          go_simp
          go_at_call 44
          refine (HA2.out.nextI (by have := FN_up h1; omega) 2 2 rfl (by decide) (by decide)).mono ?_
          rintro e u36 ⟨k35, rfl, hk35, ha9, hm37⟩
          have HA38 := Lib.hid ha9
          clear ha9
          simp only []
          have hk35I : (k35 : Int) < 2 := by omega
          have hk35J : (0 : Int) ≤ (k35 : Int) := Int.natCast_nonneg _
          refine NextE.go (Z := Kp b W.heap.size) (u := u1) hK (Kp.of_mv _ hm37) (fun _ h9 => (Kp.of_mv _ hm37).trans h9) ?_
          clear hK K
          (try simp only [Act.put, sA, sZ, sS])
          try clear hm37
          refine two (i := 0) (j := 8) (fun K hK => ?_) (fun K hK => ?_)
          · skip
            simp only [List.getElem_toArray, List.getElem_cons_zero]
            go_simp
            have hx40 : Ext u36 (u36.alloc (.cells #[.string ⟨#[110, 101, 120, 116]⟩, .string ⟨#[112, 114, 101, 118]⟩] 9)) := (Ext.refl _).alloc _
            have hn9 := SR.new u36 [wNext, wPrev] #[.string ⟨#[110, 101, 120, 116]⟩, .string ⟨#[112, 114, 101, 118]⟩] rfl
            obtain ⟨u39, hu9⟩ : ∃ x, x = u36.alloc (.cells #[.string ⟨#[110, 101, 120, 116]⟩, .string ⟨#[112, 114, 101, 118]⟩] 9) := ⟨_, rfl⟩
            obtain ⟨g41, hg41⟩ : ∃ x, x = u36.heap.size := ⟨_, rfl⟩
            have hg41b : g41 ≠ b := by have := HA38.out.sz; omega
            have hg41W : g41 ≠ W.heap.size := by have := HA38.out.sz; omega
            rw [← hu9, ← hg41] at hn9
            rw [← hu9] at hx40 ⊢
            rw [← hg41]
            have HA42 := Lib.hid (HA38.out.ext hx40)
            have HN43 := Lib.hid hn9
            clear hu9 hn9 hg41
            obtain ⟨s44, hs44⟩ : ∃ s, ([wNext, wPrev] : List (List UInt8))[k35]? = some s := ⟨_, List.getElem?_eq_getElem (by simpa using hk35)⟩
            have Ms44 := Lib.hid (List.mem_of_getElem? hs44)
            have Gs44 := Lib.hid hs44
            obtain ⟨S45, hS45⟩ : ∃ S, S = bs s44 := ⟨_, rfl⟩
            have ES45 := Lib.hid hS45
            clear hs44 hS45
            refine NextE.go (Z := Kp b W.heap.size) (u := u36) hK (Kp.of_ext _ hx40) (fun _ h9 => (Kp.of_ext _ hx40).trans h9) ?_
            clear hK K
            (try simp only [Act.put, sA, sZ, sS])
            try clear hx40
            refine tkA (i := 3) (d := some 101) (v := ?_) (Kp.refl _ _ _) ?_ ?_; rotate_left
            · (intro w9 hT9; clear hT9; go_simp; try with_reducible rfl)
            (try simp only [Act.put, sA, sZ, sS])
            refine tkA (i := 4) (d := some 102) (v := ?_) (Kp.refl _ _ _) ?_ ?_; rotate_left
            · (intro w9 hT9; have q9 := (HN43.out.kp hT9 hg41b hg41W).at_ _ _ Gs44.out; rw [← ES45.out] at q9; go_simp; try with_reducible rfl)
            (try simp only [Act.put, sA, sZ, sS])
            refine one (i := 8) (fun K hK => ?_)
            simp only [List.getElem_toArray, List.getElem_cons_succ, List.getElem_cons_zero]
            go_simp
            go_at_call 46
            refine (HSUB.out h1 _ _ HA42.out (by have := FN_up h1; omega)).mono ?_
            rintro e u46 hp9
            obtain ⟨d49, t50, rfl, hr9, hg9, ha9, hm47⟩ := HA42.out.sub hp9
            have HA48 := Lib.hid ha9
            have HR51 := Lib.hid hr9
            have HGt50 := Lib.hid hg9
            clear hp9 ha9 hr9 hg9
            simp only []
            have HSR52 := Lib.hid (HN43.out.mv hm47 hg41b)
            refine NextE.go (Z := Kp b W.heap.size) (u := u39) hK (Kp.of_mv _ hm47) (fun _ h9 => (Kp.of_mv _ hm47).trans h9) ?_
            clear hK K
            (try simp only [Act.put, sA, sZ, sS])
            try clear hm47
            refine one (i := 9) (fun K hK => ?_)
            simp only [List.getElem_toArray, List.getElem_cons_succ, List.getElem_cons_zero]
            go_simp
            have hx54 : Ext u46 (u46.alloc (.cells #[.int .i64 d49.k, .int .i64 d49.n, .string d49.s, .slice d49.A d49.m d49.c] 31)) := (Ext.refl _).alloc _
            have hn9 : ∀ (k n : Int) (s : List UInt8), HT W (u46.alloc (.cells #[.int .i64 d49.k, .int .i64 d49.n, .string d49.s, .slice d49.A d49.m d49.c] 31)) ⟨k, n, bs s, some ⟨u46.heap.size, 0, none⟩, 1, 1⟩ (.nd k n s [t50]) := fun k n s => HT.node HA48.out.sz k n s [d49] [t50] #[.int .i64 d49.k, .int .i64 d49.n, .string d49.s, .slice d49.A d49.m d49.c] 1 rfl rfl (HT.kids1 HR51.out)
            obtain ⟨u53, hu9⟩ : ∃ x, x = u46.alloc (.cells #[.int .i64 d49.k, .int .i64 d49.n, .string d49.s, .slice d49.A d49.m d49.c] 31) := ⟨_, rfl⟩
            obtain ⟨g55, hg55⟩ : ∃ x, x = u46.heap.size := ⟨_, rfl⟩
            have hg55b : g55 ≠ b := by have := HA48.out.sz; omega
            have hg55W : g55 ≠ W.heap.size := by have := HA48.out.sz; omega
            rw [← hu9, ← hg55] at hn9
            rw [← hu9] at hx54 ⊢
            rw [← hg55]
            have HA56 := Lib.hid (HA48.out.ext hx54)
            have HN57 := Lib.hid hn9
            clear hu9 hn9 hg55
            have HSR58 := Lib.hid (HSR52.out.mv (Mv.of_ext hx54) hg41b)
            have HHT59 := Lib.hid (HR51.out.mv (Mv.of_ext hx54) hbW)
            refine NextE.go (Z := Kp b W.heap.size) (u := u46) hK (Kp.of_ext _ hx54) (fun _ h9 => (Kp.of_ext _ hx54).trans h9) ?_
            clear hK K
            (try simp only [Act.put, sA, sZ, sS])
            try clear hx54
            refine one (i := 10) (fun K hK => ?_)
            simp only [List.getElem_toArray, List.getElem_cons_succ, List.getElem_cons_zero]
            go_simp
            go_at_call 96
            refine (mnode_any _ _ _ _ _ _).mono ?_
            rintro e u60 ⟨rfl, hx61⟩
            simp only []
            have HSR63 := Lib.hid (HSR58.out.mv (Mv.of_ext hx61) hg41b)
            have HHT64 := Lib.hid (HHT59.out.mv (Mv.of_ext hx61) hbW)
            have HRW65 := Lib.hid (fun k n s => (HN57.out k n s).mv (Mv.of_ext hx61) hbW)
            have HA62 := Lib.hid (HA56.out.ext hx61)
            refine NextE.go (Z := Kp b W.heap.size) (u := u53) hK (Kp.of_ext _ hx61) (fun _ h9 => (Kp.of_ext _ hx61).trans h9) ?_
            clear hK K
            (try simp only [Act.put, sA, sZ, sS])
            try clear hx61
            refine one (i := 11) (fun K hK => ?_)
            obtain ⟨_, z0, z1, z2, z3, z4, z5, z6, z7⟩ := HA62.out.nx.nb
            simp only [List.getElem_toArray, List.getElem_cons_succ, List.getElem_cons_zero]
            go_simp
            refine hK.out _ _ ⟨fun _ => trivial, Kp.set4 _ _ _ _⟩ (fun _ => ?_)
            clear hK K
            (try simp only [Act.put, sA, sZ, sS])
            refine wpE_done (by kernel_rfl) ?_ _
            go_wp2_with fail
            refine bodyPost_ret (v := .agg #[.int .i64 10, .int .i64 0, .string S45, .slice (some ⟨g55, 0, none⟩) 1 1]) (by simp [results, Tryz.results46, go_sem, *]) rfl ?_
            exact HA62.out.fin (by have := FN_up h1; omega) ⟨10, 0, S45, some ⟨g55, 0, none⟩, 1, 1⟩ (.nd 10 0 s44 [t50]) (by rw [ES45.out]; exact HRW65.out 10 0 s44) (.up h1 (.call12 (by have := Ms44.out; revert this; simp [functions]; rintro (h | h) <;> simp [h]) (by have := Ms44.out; revert this; simp; rintro (h | h) <;> rw [h] <;> decide) HGt50.out.1) (by have := HGt50.out.2; simp only [tszs]; omega))
          · skip
            simp only [List.getElem_toArray, List.getElem_cons_succ, List.getElem_cons_zero]
            go_simp
            go_at_call 46
            refine (HSUB.out h1 _ _ HA38.out (by have := FN_up h1; omega)).mono ?_
            rintro e u66 hp9
            obtain ⟨d69, t70, rfl, hr9, hg9, ha9, hm67⟩ := HA38.out.sub hp9
            have HA68 := Lib.hid ha9
            have HR71 := Lib.hid hr9
            have HGt70 := Lib.hid hg9
            clear hp9 ha9 hr9 hg9
            simp only []
            refine NextE.go (Z := Kp b W.heap.size) (u := u36) hK (Kp.of_mv _ hm67) (fun _ h9 => (Kp.of_mv _ hm67).trans h9) ?_
            clear hK K
            (try simp only [Act.put, sA, sZ, sS])
            try clear hm67
            refine two (i := 0) (j := 9) (fun K hK => ?_) (fun K hK => ?_)
            · skip
              simp only [List.getElem_toArray, List.getElem_cons_zero]
              go_simp
              have hx73 : Ext u66 (u66.alloc (.cells #[.string ⟨#[110, 101, 120, 116]⟩, .string ⟨#[112, 114, 101, 118]⟩] 9)) := (Ext.refl _).alloc _
              have hn9 := SR.new u66 [wNext, wPrev] #[.string ⟨#[110, 101, 120, 116]⟩, .string ⟨#[112, 114, 101, 118]⟩] rfl
              obtain ⟨u72, hu9⟩ : ∃ x, x = u66.alloc (.cells #[.string ⟨#[110, 101, 120, 116]⟩, .string ⟨#[112, 114, 101, 118]⟩] 9) := ⟨_, rfl⟩
              obtain ⟨g74, hg74⟩ : ∃ x, x = u66.heap.size := ⟨_, rfl⟩
              have hg74b : g74 ≠ b := by have := HA68.out.sz; omega
              have hg74W : g74 ≠ W.heap.size := by have := HA68.out.sz; omega
              rw [← hu9, ← hg74] at hn9
              rw [← hu9] at hx73 ⊢
              rw [← hg74]
              have HA75 := Lib.hid (HA68.out.ext hx73)
              have HN76 := Lib.hid hn9
              clear hu9 hn9 hg74
              have HHT77 := Lib.hid (HR71.out.mv (Mv.of_ext hx73) hbW)
              obtain ⟨s78, hs78⟩ : ∃ s, ([wNext, wPrev] : List (List UInt8))[k35]? = some s := ⟨_, List.getElem?_eq_getElem (by simpa using hk35)⟩
              have Ms78 := Lib.hid (List.mem_of_getElem? hs78)
              have Gs78 := Lib.hid hs78
              obtain ⟨S79, hS79⟩ : ∃ S, S = bs s78 := ⟨_, rfl⟩
              have ES79 := Lib.hid hS79
              clear hs78 hS79
              refine NextE.go (Z := Kp b W.heap.size) (u := u66) hK (Kp.of_ext _ hx73) (fun _ h9 => (Kp.of_ext _ hx73).trans h9) ?_
              clear hK K
              (try simp only [Act.put, sA, sZ, sS])
              try clear hx73
              refine tkA (i := 3) (d := some 101) (v := ?_) (Kp.refl _ _ _) ?_ ?_; rotate_left
              · (intro w9 hT9; clear hT9; go_simp; try with_reducible rfl)
              (try simp only [Act.put, sA, sZ, sS])
              refine tkA (i := 4) (d := some 102) (v := ?_) (Kp.refl _ _ _) ?_ ?_; rotate_left
              · (intro w9 hT9; have q9 := (HN76.out.kp hT9 hg74b hg74W).at_ _ _ Gs78.out; rw [← ES79.out] at q9; go_simp; try with_reducible rfl)
              (try simp only [Act.put, sA, sZ, sS])
              refine one (i := 9) (fun K hK => ?_)
              simp only [List.getElem_toArray, List.getElem_cons_succ, List.getElem_cons_zero]
              go_simp
              have hx81 : Ext u72 (u72.alloc (.cells #[.int .i64 d69.k, .int .i64 d69.n, .string d69.s, .slice d69.A d69.m d69.c] 31)) := (Ext.refl _).alloc _
              have hn9 : ∀ (k n : Int) (s : List UInt8), HT W (u72.alloc (.cells #[.int .i64 d69.k, .int .i64 d69.n, .string d69.s, .slice d69.A d69.m d69.c] 31)) ⟨k, n, bs s, some ⟨u72.heap.size, 0, none⟩, 1, 1⟩ (.nd k n s [t70]) := fun k n s => HT.node HA75.out.sz k n s [d69] [t70] #[.int .i64 d69.k, .int .i64 d69.n, .string d69.s, .slice d69.A d69.m d69.c] 1 rfl rfl (HT.kids1 HHT77.out)
              obtain ⟨u80, hu9⟩ : ∃ x, x = u72.alloc (.cells #[.int .i64 d69.k, .int .i64 d69.n, .string d69.s, .slice d69.A d69.m d69.c] 31) := ⟨_, rfl⟩
              obtain ⟨g82, hg82⟩ : ∃ x, x = u72.heap.size := ⟨_, rfl⟩
              have hg82b : g82 ≠ b := by have := HA75.out.sz; omega
              have hg82W : g82 ≠ W.heap.size := by have := HA75.out.sz; omega
              rw [← hu9, ← hg82] at hn9
              rw [← hu9] at hx81 ⊢
              rw [← hg82]
              have HA83 := Lib.hid (HA75.out.ext hx81)
              have HN84 := Lib.hid hn9
              clear hu9 hn9 hg82
              have HSR85 := Lib.hid (HN76.out.mv (Mv.of_ext hx81) hg74b)
              have HHT86 := Lib.hid (HHT77.out.mv (Mv.of_ext hx81) hbW)
              refine NextE.go (Z := Kp b W.heap.size) (u := u72) hK (Kp.of_ext _ hx81) (fun _ h9 => (Kp.of_ext _ hx81).trans h9) ?_
              clear hK K
              (try simp only [Act.put, sA, sZ, sS])
              try clear hx81
              refine one (i := 10) (fun K hK => ?_)
              simp only [List.getElem_toArray, List.getElem_cons_succ, List.getElem_cons_zero]
              go_simp
              go_at_call 96
              refine (mnode_any _ _ _ _ _ _).mono ?_
              rintro e u87 ⟨rfl, hx88⟩
              simp only []
              have HSR90 := Lib.hid (HSR85.out.mv (Mv.of_ext hx88) hg74b)
              have HHT91 := Lib.hid (HHT86.out.mv (Mv.of_ext hx88) hbW)
              have HRW92 := Lib.hid (fun k n s => (HN84.out k n s).mv (Mv.of_ext hx88) hbW)
              have HA89 := Lib.hid (HA83.out.ext hx88)
              refine NextE.go (Z := Kp b W.heap.size) (u := u80) hK (Kp.of_ext _ hx88) (fun _ h9 => (Kp.of_ext _ hx88).trans h9) ?_
              clear hK K
              (try simp only [Act.put, sA, sZ, sS])
              try clear hx88
              refine one (i := 11) (fun K hK => ?_)
              obtain ⟨_, z0, z1, z2, z3, z4, z5, z6, z7⟩ := HA89.out.nx.nb
              simp only [List.getElem_toArray, List.getElem_cons_succ, List.getElem_cons_zero]
              go_simp
              refine hK.out _ _ ⟨fun _ => trivial, Kp.set4 _ _ _ _⟩ (fun _ => ?_)
              clear hK K
              (try simp only [Act.put, sA, sZ, sS])
              refine wpE_done (by kernel_rfl) ?_ _
              go_wp2_with fail
              refine bodyPost_ret (v := .agg #[.int .i64 10, .int .i64 0, .string S79, .slice (some ⟨g82, 0, none⟩) 1 1]) (by simp [results, Tryz.results46, go_sem, *]) rfl ?_
              exact HA89.out.fin (by have := FN_up h1; omega) ⟨10, 0, S79, some ⟨g82, 0, none⟩, 1, 1⟩ (.nd 10 0 s78 [t70]) (by rw [ES79.out]; exact HRW92.out 10 0 s78) (.up h1 (.call12 (by have := Ms78.out; revert this; simp [functions]; rintro (h | h) <;> simp [h]) (by have := Ms78.out; revert this; simp; rintro (h | h) <;> rw [h] <;> decide) HGt70.out.1) (by have := HGt70.out.2; simp only [tszs]; omega))
            · skip
              simp only [List.getElem_toArray, List.getElem_cons_succ, List.getElem_cons_zero]
              go_simp
              have hx94 : Ext u66 (u66.alloc (.cells #[.int .i64 d69.k, .int .i64 d69.n, .string d69.s, .slice d69.A d69.m d69.c] 31)) := (Ext.refl _).alloc _
              have hn9 : ∀ (k n : Int) (s : List UInt8), HT W (u66.alloc (.cells #[.int .i64 d69.k, .int .i64 d69.n, .string d69.s, .slice d69.A d69.m d69.c] 31)) ⟨k, n, bs s, some ⟨u66.heap.size, 0, none⟩, 1, 1⟩ (.nd k n s [t70]) := fun k n s => HT.node HA68.out.sz k n s [d69] [t70] #[.int .i64 d69.k, .int .i64 d69.n, .string d69.s, .slice d69.A d69.m d69.c] 1 rfl rfl (HT.kids1 HR71.out)
              obtain ⟨u93, hu9⟩ : ∃ x, x = u66.alloc (.cells #[.int .i64 d69.k, .int .i64 d69.n, .string d69.s, .slice d69.A d69.m d69.c] 31) := ⟨_, rfl⟩
              obtain ⟨g95, hg95⟩ : ∃ x, x = u66.heap.size := ⟨_, rfl⟩
              have hg95b : g95 ≠ b := by have := HA68.out.sz; omega
              have hg95W : g95 ≠ W.heap.size := by have := HA68.out.sz; omega
              rw [← hu9, ← hg95] at hn9
              rw [← hu9] at hx94 ⊢
              rw [← hg95]
              have HA96 := Lib.hid (HA68.out.ext hx94)
              have HN97 := Lib.hid hn9
              clear hu9 hn9 hg95
              have HHT98 := Lib.hid (HR71.out.mv (Mv.of_ext hx94) hbW)
              refine NextE.go (Z := Kp b W.heap.size) (u := u66) hK (Kp.of_ext _ hx94) (fun _ h9 => (Kp.of_ext _ hx94).trans h9) ?_
              clear hK K
              (try simp only [Act.put, sA, sZ, sS])
              try clear hx94
              refine one (i := 0) (fun K hK => ?_)
              simp only [List.getElem_toArray, List.getElem_cons_zero]
              go_simp
              have hx100 : Ext u93 (u93.alloc (.cells #[.string ⟨#[110, 101, 120, 116]⟩, .string ⟨#[112, 114, 101, 118]⟩] 9)) := (Ext.refl _).alloc _
              have hn9 := SR.new u93 [wNext, wPrev] #[.string ⟨#[110, 101, 120, 116]⟩, .string ⟨#[112, 114, 101, 118]⟩] rfl
              obtain ⟨u99, hu9⟩ : ∃ x, x = u93.alloc (.cells #[.string ⟨#[110, 101, 120, 116]⟩, .string ⟨#[112, 114, 101, 118]⟩] 9) := ⟨_, rfl⟩
              obtain ⟨g101, hg101⟩ : ∃ x, x = u93.heap.size := ⟨_, rfl⟩
              have hg101b : g101 ≠ b := by have := HA96.out.sz; omega
              have hg101W : g101 ≠ W.heap.size := by have := HA96.out.sz; omega
              rw [← hu9, ← hg101] at hn9
              rw [← hu9] at hx100 ⊢
              rw [← hg101]
              have HA102 := Lib.hid (HA96.out.ext hx100)
              have HN103 := Lib.hid hn9
              clear hu9 hn9 hg101
              have HHT104 := Lib.hid (HHT98.out.mv (Mv.of_ext hx100) hbW)
              have HRW105 := Lib.hid (fun k n s => (HN97.out k n s).mv (Mv.of_ext hx100) hbW)
              obtain ⟨s106, hs106⟩ : ∃ s, ([wNext, wPrev] : List (List UInt8))[k35]? = some s := ⟨_, List.getElem?_eq_getElem (by simpa using hk35)⟩
              have Ms106 := Lib.hid (List.mem_of_getElem? hs106)
              have Gs106 := Lib.hid hs106
              obtain ⟨S107, hS107⟩ : ∃ S, S = bs s106 := ⟨_, rfl⟩
              have ES107 := Lib.hid hS107
              clear hs106 hS107
              refine NextE.go (Z := Kp b W.heap.size) (u := u93) hK (Kp.of_ext _ hx100) (fun _ h9 => (Kp.of_ext _ hx100).trans h9) ?_
              clear hK K
              (try simp only [Act.put, sA, sZ, sS])
              try clear hx100
              refine tkA (i := 3) (d := some 101) (v := ?_) (Kp.refl _ _ _) ?_ ?_; rotate_left
              · (intro w9 hT9; clear hT9; go_simp; try with_reducible rfl)
              (try simp only [Act.put, sA, sZ, sS])
              refine tkA (i := 4) (d := some 102) (v := ?_) (Kp.refl _ _ _) ?_ ?_; rotate_left
              · (intro w9 hT9; have q9 := (HN103.out.kp hT9 hg101b hg101W).at_ _ _ Gs106.out; rw [← ES107.out] at q9; go_simp; try with_reducible rfl)
              (try simp only [Act.put, sA, sZ, sS])
              refine one (i := 10) (fun K hK => ?_)
              simp only [List.getElem_toArray, List.getElem_cons_succ, List.getElem_cons_zero]
              go_simp
              go_at_call 96
              refine (mnode_any _ _ _ _ _ _).mono ?_
              rintro e u108 ⟨rfl, hx109⟩
              simp only []
              have HSR111 := Lib.hid (HN103.out.mv (Mv.of_ext hx109) hg101b)
              have HHT112 := Lib.hid (HHT104.out.mv (Mv.of_ext hx109) hbW)
              have HRW113 := Lib.hid (fun k n s => (HRW105.out k n s).mv (Mv.of_ext hx109) hbW)
              have HA110 := Lib.hid (HA102.out.ext hx109)
              refine NextE.go (Z := Kp b W.heap.size) (u := u99) hK (Kp.of_ext _ hx109) (fun _ h9 => (Kp.of_ext _ hx109).trans h9) ?_
              clear hK K
              (try simp only [Act.put, sA, sZ, sS])
              try clear hx109
              refine one (i := 11) (fun K hK => ?_)
              obtain ⟨_, z0, z1, z2, z3, z4, z5, z6, z7⟩ := HA110.out.nx.nb
              simp only [List.getElem_toArray, List.getElem_cons_succ, List.getElem_cons_zero]
              go_simp
              refine hK.out _ _ ⟨fun _ => trivial, Kp.set4 _ _ _ _⟩ (fun _ => ?_)
              clear hK K
              (try simp only [Act.put, sA, sZ, sS])
              refine wpE_done (by kernel_rfl) ?_ _
              go_wp2_with fail
              refine bodyPost_ret (v := .agg #[.int .i64 10, .int .i64 0, .string S107, .slice (some ⟨g95, 0, none⟩) 1 1]) (by simp [results, Tryz.results46, go_sem, *]) rfl ?_
              exact HA110.out.fin (by have := FN_up h1; omega) ⟨10, 0, S107, some ⟨g95, 0, none⟩, 1, 1⟩ (.nd 10 0 s106 [t70]) (by rw [ES107.out]; exact HRW113.out 10 0 s106) (.up h1 (.call12 (by have := Ms106.out; revert this; simp [functions]; rintro (h | h) <;> simp [h]) (by have := Ms106.out; revert this; simp; rintro (h | h) <;> rw [h] <;> decide) HGt70.out.1) (by have := HGt70.out.2; simp only [tszs]; omega))
      · have h1I : (1 : Int) ≤ (deep : Int) := by omega
        have hwd : IntKind.i64.wrap ((deep : Int) - 1) = (deep : Int) - 1 := IntWalk.i64_in _ (by omega)
        go_upto_region 27 with (first | (go_at_call 46; refine (HSUB.out h1 _ _ HA.out (by have := FN_up h1; omega)).mono ?_; rintro e u1 hp; obtain ⟨d1, t1, rfl, hr1, hg1, ha1, hm1⟩ := HA.out.sub hp; have HA1 := Lib.hid ha1; have HR1 := Lib.hid hr1; have HGt1 := Lib.hid hg1; clear hp ha1 hr1 hg1))
        have hx6 : Ext u1 (u1.alloc (.cells #[.int .i64 d1.k, .int .i64 d1.n, .string d1.s, .slice d1.A d1.m d1.c] 31)) := (Ext.refl _).alloc _
        have hc6 : NX (u1.alloc (.cells #[.int .i64 d1.k, .int .i64 d1.n, .string d1.s, .slice d1.A d1.m d1.c] 31)) u1.heap.size d1.k d1.n d1.s (.slice d1.A d1.m d1.c) := heap_alloc_new _ _
        generalize u1.alloc (.cells #[.int .i64 d1.k, .int .i64 d1.n, .string d1.s, .slice d1.A d1.m d1.c] 31) = w6 at *
        have hgb6 : u1.heap.size ≠ b := by have := HA1.out.sz; omega
        have hgW6 : u1.heap.size ≠ W.heap.size := by have := HA1.out.sz; omega
        generalize u1.heap.size = g6 at *
        have HC6 := Lib.hid hc6
        have HB6 := Lib.hid (HA1.out.ext hx6)
        have HR6 := Lib.hid (HR1.out.mv (Mv.of_ext hx6) hbW)
        clear hc6 hx6
        refine wp_region_E (fun _ => True) (fun X => Kp b W.heap.size w6 X) (fun _ => true) (by kernel_rfl) ?_
        obtain ⟨u1, hu9, hx9⟩ : ∃ x, w6.drew = x ∧ Ext w6 x := ⟨_, rfl, (Ext.refl _).drew⟩
        rw [hu9]
        clear hu9
        have HNX3 := Lib.hid (HC6.out.mv (Mv.of_ext hx9) hgb6)
        have HHT4 := Lib.hid (HR6.out.mv (Mv.of_ext hx9) hbW)
        have HA2 := Lib.hid (HB6.out.ext hx9)
        refine wpE_strong (T' := fun X => Kp b W.heap.size u1 X) (fun _ h9 => (Kp.of_ext _ hx9).trans h9) _ _ _ _ ?_
        clear hx9
        refine tkA (i := 1) (d := some 116) (v := ?_) (Kp.refl _ _ _) ?_ ?_; rotate_left
        · (intro w9 hT9; clear hT9; go_simp; try with_reducible rfl)
        (try simp only [Act.put, sA, sZ, sS])
        refine tkA (i := 5) (d := some 120) (v := ?_) (Kp.refl _ _ _) ?_ ?_; rotate_left
        · (intro w9 hT9; obtain ⟨_, q0, q1, q2, q3, _, _, _, _⟩ := (HNX3.out.kp hT9 hgb6 hgW6).nb; go_simp; try with_reducible rfl)
        (try simp only [Act.put, sA, sZ, sS])
        refine tkA (i := 6) (d := some 121) (v := ?_) (Kp.refl _ _ _) ?_ ?_; rotate_left
        · (intro w9 hT9; clear hT9; go_simp; try with_reducible rfl)
        (try simp only [Act.put, sA, sZ, sS])
        refine tkA (i := 7) (d := some 122) (v := ?_) (Kp.refl _ _ _) ?_ ?_; rotate_left
        · (intro w9 hT9; clear hT9; go_simp; try with_reducible rfl)
        (try simp only [Act.put, sA, sZ, sS])
        refine tkA (i := 8) (d := some 123) (v := ?_) (Kp.refl _ _ _) ?_ ?_; rotate_left
        · (intro w9 hT9; clear hT9; go_simp; try with_reducible rfl)
        (try simp only [Act.put, sA, sZ, sS])
        refine two (i := 0) (j := 2) (fun K hK => ?_) (fun K hK => ?_)
        · skip
          simp only [List.getElem_toArray, List.getElem_cons_zero]
          go_simp
          have hx6 : Ext u1 (u1.alloc (.cells #[.string ⟨#[108, 97, 116, 101, 114]⟩, .string ⟨#[101, 97, 114, 108, 105, 101, 114]⟩, .string ⟨#[98, 101, 116, 119, 101, 101, 110]⟩] 9)) := (Ext.refl _).alloc _
          have hn9 := SR.new u1 [wLater, wEarlier, wBetween] #[.string ⟨#[108, 97, 116, 101, 114]⟩, .string ⟨#[101, 97, 114, 108, 105, 101, 114]⟩, .string ⟨#[98, 101, 116, 119, 101, 101, 110]⟩] rfl
          obtain ⟨u5, hu9⟩ : ∃ x, x = u1.alloc (.cells #[.string ⟨#[108, 97, 116, 101, 114]⟩, .string ⟨#[101, 97, 114, 108, 105, 101, 114]⟩, .string ⟨#[98, 101, 116, 119, 101, 101, 110]⟩] 9) := ⟨_, rfl⟩
          obtain ⟨g7, hg7⟩ : ∃ x, x = u1.heap.size := ⟨_, rfl⟩
          have hg7b : g7 ≠ b := by have := HA2.out.sz; omega
          have hg7W : g7 ≠ W.heap.size := by have := HA2.out.sz; omega
          rw [← hu9, ← hg7] at hn9
          rw [← hu9] at hx6 ⊢
          rw [← hg7]
          have HA8 := Lib.hid (HA2.out.ext hx6)
          have HN9 := Lib.hid hn9
          clear hu9 hn9 hg7
          have HNX10 := Lib.hid (HNX3.out.mv (Mv.of_ext hx6) hgb6)
          have HHT11 := Lib.hid (HHT4.out.mv (Mv.of_ext hx6) hbW)
          refine NextE.go (Z := Kp b W.heap.size) (u := u1) hK (Kp.of_ext _ hx6) (fun _ h9 => (Kp.of_ext _ hx6).trans h9) ?_
          clear hK K
          (try simp only [Act.put, sA, sZ, sS])
          try clear hx6
          refine one (i := 2) (fun K hK => ?_)
          simp only [List.getElem_toArray, List.getElem_cons_succ, List.getElem_cons_zero]
          go_simp
          go_at_call 44
          refine (HA8.out.nextI (by have := FN_up h1; omega) 3 3 rfl (by decide) (by decide)).mono ?_
          rintro e u13 ⟨k12, rfl, hk12, ha9, hm14⟩
          have HA15 := Lib.hid ha9
          clear ha9
          simp only []
          have hk12I : (k12 : Int) < 3 := by omega
          have hk12J : (0 : Int) ≤ (k12 : Int) := Int.natCast_nonneg _
          have HSR16 := Lib.hid (HN9.out.mv hm14 hg7b)
          have HNX17 := Lib.hid (HNX10.out.mv hm14 hgb6)
          have HHT18 := Lib.hid (HHT11.out.mv hm14 hbW)
          obtain ⟨s19, hs19⟩ : ∃ s, ([wLater, wEarlier, wBetween] : List (List UInt8))[k12]? = some s := ⟨_, List.getElem?_eq_getElem (by simpa using hk12)⟩
          have Ms19 := Lib.hid (List.mem_of_getElem? hs19)
          have Gs19 := Lib.hid hs19
          obtain ⟨S20, hS20⟩ : ∃ S, S = bs s19 := ⟨_, rfl⟩
          have ES20 := Lib.hid hS20
          clear hs19 hS20
          refine NextE.go (Z := Kp b W.heap.size) (u := u5) hK (Kp.of_mv _ hm14) (fun _ h9 => (Kp.of_mv _ hm14).trans h9) ?_
          clear hK K
          (try simp only [Act.put, sA, sZ, sS])
          try clear hm14
          refine tkA (i := 3) (d := some 118) (v := ?_) (Kp.refl _ _ _) ?_ ?_; rotate_left
          · (intro w9 hT9; clear hT9; go_simp; try with_reducible rfl)
          (try simp only [Act.put, sA, sZ, sS])
          refine tkA (i := 4) (d := some 119) (v := ?_) (Kp.refl _ _ _) ?_ ?_; rotate_left
          · (intro w9 hT9; have q9 := (HSR16.out.kp hT9 hg7b hg7W).at_ _ _ Gs19.out; rw [← ES20.out] at q9; go_simp; try with_reducible rfl)
          (try simp only [Act.put, sA, sZ, sS])
          refine one (i := 9) (fun K hK => ?_)
          simp only [List.getElem_toArray, List.getElem_cons_succ, List.getElem_cons_zero]
          go_simp
          go_at_call 46
          refine (HSUB.out h1 _ _ HA15.out (by have := FN_up h1; omega)).mono ?_
          rintro e u21 hp9
          obtain ⟨d24, t25, rfl, hr9, hg9, ha9, hm22⟩ := HA15.out.sub hp9
          have HA23 := Lib.hid ha9
          have HR26 := Lib.hid hr9
          have HGt25 := Lib.hid hg9
          clear hp9 ha9 hr9 hg9
          simp only []
          have HSR27 := Lib.hid (HSR16.out.mv hm22 hg7b)
          have HNX28 := Lib.hid (HNX17.out.mv hm22 hgb6)
          have HHT29 := Lib.hid (HHT18.out.mv hm22 hbW)
          refine NextE.go (Z := Kp b W.heap.size) (u := u13) hK (Kp.of_mv _ hm22) (fun _ h9 => (Kp.of_mv _ hm22).trans h9) ?_
          clear hK K
          (try simp only [Act.put, sA, sZ, sS])
          try clear hm22
          refine one (i := 10) (fun K hK => ?_)
          simp only [List.getElem_toArray, List.getElem_cons_succ, List.getElem_cons_zero]
          go_simp
          have hx31 : Ext u21 (u21.alloc (.cells #[.int .i64 d1.k, .int .i64 d1.n, .string d1.s, .slice d1.A d1.m d1.c, .int .i64 d24.k, .int .i64 d24.n, .string d24.s, .slice d24.A d24.m d24.c] 31)) := (Ext.refl _).alloc _
          have hn9 : ∀ (k n : Int) (s : List UInt8), HT W (u21.alloc (.cells #[.int .i64 d1.k, .int .i64 d1.n, .string d1.s, .slice d1.A d1.m d1.c, .int .i64 d24.k, .int .i64 d24.n, .string d24.s, .slice d24.A d24.m d24.c] 31)) ⟨k, n, bs s, some ⟨u21.heap.size, 0, none⟩, 2, 2⟩ (.nd k n s [t1, t25]) := fun k n s => HT.node HA23.out.sz k n s [d1, d24] [t1, t25] #[.int .i64 d1.k, .int .i64 d1.n, .string d1.s, .slice d1.A d1.m d1.c, .int .i64 d24.k, .int .i64 d24.n, .string d24.s, .slice d24.A d24.m d24.c] 2 rfl rfl (HT.kids2 HHT29.out HR26.out)
          obtain ⟨u30, hu9⟩ : ∃ x, x = u21.alloc (.cells #[.int .i64 d1.k, .int .i64 d1.n, .string d1.s, .slice d1.A d1.m d1.c, .int .i64 d24.k, .int .i64 d24.n, .string d24.s, .slice d24.A d24.m d24.c] 31) := ⟨_, rfl⟩
          obtain ⟨g32, hg32⟩ : ∃ x, x = u21.heap.size := ⟨_, rfl⟩
          have hg32b : g32 ≠ b := by have := HA23.out.sz; omega
          have hg32W : g32 ≠ W.heap.size := by have := HA23.out.sz; omega
          rw [← hu9, ← hg32] at hn9
          rw [← hu9] at hx31 ⊢
          rw [← hg32]
          have HA33 := Lib.hid (HA23.out.ext hx31)
          have HN34 := Lib.hid hn9
          clear hu9 hn9 hg32
          have HSR35 := Lib.hid (HSR27.out.mv (Mv.of_ext hx31) hg7b)
          have HNX36 := Lib.hid (HNX28.out.mv (Mv.of_ext hx31) hgb6)
          have HHT37 := Lib.hid (HHT29.out.mv (Mv.of_ext hx31) hbW)
          have HHT38 := Lib.hid (HR26.out.mv (Mv.of_ext hx31) hbW)
          refine NextE.go (Z := Kp b W.heap.size) (u := u21) hK (Kp.of_ext _ hx31) (fun _ h9 => (Kp.of_ext _ hx31).trans h9) ?_
          clear hK K
          (try simp only [Act.put, sA, sZ, sS])
          try clear hx31
          refine one (i := 11) (fun K hK => ?_)
          simp only [List.getElem_toArray, List.getElem_cons_succ, List.getElem_cons_zero]
          go_simp
          go_at_call 96
          refine (mnode_any _ _ _ _ _ _).mono ?_
          rintro e u39 ⟨rfl, hx40⟩
          simp only []
          have HSR42 := Lib.hid (HSR35.out.mv (Mv.of_ext hx40) hg7b)
          have HNX43 := Lib.hid (HNX36.out.mv (Mv.of_ext hx40) hgb6)
          have HHT44 := Lib.hid (HHT37.out.mv (Mv.of_ext hx40) hbW)
          have HHT45 := Lib.hid (HHT38.out.mv (Mv.of_ext hx40) hbW)
          have HRW46 := Lib.hid (fun k n s => (HN34.out k n s).mv (Mv.of_ext hx40) hbW)
          have HA41 := Lib.hid (HA33.out.ext hx40)
          refine NextE.go (Z := Kp b W.heap.size) (u := u30) hK (Kp.of_ext _ hx40) (fun _ h9 => (Kp.of_ext _ hx40).trans h9) ?_
          clear hK K
          (try simp only [Act.put, sA, sZ, sS])
          try clear hx40
          refine one (i := 12) (fun K hK => ?_)
          obtain ⟨_, z0, z1, z2, z3, z4, z5, z6, z7⟩ := HA41.out.nx.nb
          simp only [List.getElem_toArray, List.getElem_cons_succ, List.getElem_cons_zero]
          go_simp
          refine hK.out _ _ ⟨fun _ => trivial, Kp.set4 _ _ _ _⟩ (fun _ => ?_)
          clear hK K
          (try simp only [Act.put, sA, sZ, sS])
          refine wpE_done (by kernel_rfl) ?_ _
          go_wp2_with fail
          refine bodyPost_ret (v := .agg #[.int .i64 10, .int .i64 0, .string S20, .slice (some ⟨g32, 0, none⟩) 2 2]) (by simp [results, Tryz.results46, go_sem, *]) rfl ?_
          exact HA41.out.fin (by have := FN_up h1; omega) ⟨10, 0, S20, some ⟨g32, 0, none⟩, 2, 2⟩ (.nd 10 0 s19 [t1, t25]) (by rw [ES20.out]; exact HRW46.out 10 0 s19) (.up h1 (.call22 (by have := Ms19.out; revert this; simp [functions]; rintro (h | h | h) <;> simp [h]) (by have := Ms19.out; revert this; simp; rintro (h | h | h) <;> rw [h] <;> decide) HGt1.out.1 HGt25.out.1) (by have := HGt25.out.2; have := HGt1.out.2; simp only [tszs]; omega))
        · skip
          simp only [List.getElem_toArray, List.getElem_cons_succ, List.getElem_cons_zero]
          go_simp
          go_at_call 44
          refine (HA2.out.nextI (by have := FN_up h1; omega) 3 3 rfl (by decide) (by decide)).mono ?_
          rintro e u48 ⟨k47, rfl, hk47, ha9, hm49⟩
          have HA50 := Lib.hid ha9
          clear ha9
          simp only []
          have hk47I : (k47 : Int) < 3 := by omega
          have hk47J : (0 : Int) ≤ (k47 : Int) := Int.natCast_nonneg _
          have HNX51 := Lib.hid (HNX3.out.mv hm49 hgb6)
          have HHT52 := Lib.hid (HHT4.out.mv hm49 hbW)
          refine NextE.go (Z := Kp b W.heap.size) (u := u1) hK (Kp.of_mv _ hm49) (fun _ h9 => (Kp.of_mv _ hm49).trans h9) ?_
          clear hK K
          (try simp only [Act.put, sA, sZ, sS])
          try clear hm49
          refine two (i := 0) (j := 9) (fun K hK => ?_) (fun K hK => ?_)
          · skip
            simp only [List.getElem_toArray, List.getElem_cons_zero]
            go_simp
            have hx54 : Ext u48 (u48.alloc (.cells #[.string ⟨#[108, 97, 116, 101, 114]⟩, .string ⟨#[101, 97, 114, 108, 105, 101, 114]⟩, .string ⟨#[98, 101, 116, 119, 101, 101, 110]⟩] 9)) := (Ext.refl _).alloc _
            have hn9 := SR.new u48 [wLater, wEarlier, wBetween] #[.string ⟨#[108, 97, 116, 101, 114]⟩, .string ⟨#[101, 97, 114, 108, 105, 101, 114]⟩, .string ⟨#[98, 101, 116, 119, 101, 101, 110]⟩] rfl
            obtain ⟨u53, hu9⟩ : ∃ x, x = u48.alloc (.cells #[.string ⟨#[108, 97, 116, 101, 114]⟩, .string ⟨#[101, 97, 114, 108, 105, 101, 114]⟩, .string ⟨#[98, 101, 116, 119, 101, 101, 110]⟩] 9) := ⟨_, rfl⟩
            obtain ⟨g55, hg55⟩ : ∃ x, x = u48.heap.size := ⟨_, rfl⟩
            have hg55b : g55 ≠ b := by have := HA50.out.sz; omega
            have hg55W : g55 ≠ W.heap.size := by have := HA50.out.sz; omega
            rw [← hu9, ← hg55] at hn9
            rw [← hu9] at hx54 ⊢
            rw [← hg55]
            have HA56 := Lib.hid (HA50.out.ext hx54)
            have HN57 := Lib.hid hn9
            clear hu9 hn9 hg55
            have HNX58 := Lib.hid (HNX51.out.mv (Mv.of_ext hx54) hgb6)
            have HHT59 := Lib.hid (HHT52.out.mv (Mv.of_ext hx54) hbW)
            obtain ⟨s60, hs60⟩ : ∃ s, ([wLater, wEarlier, wBetween] : List (List UInt8))[k47]? = some s := ⟨_, List.getElem?_eq_getElem (by simpa using hk47)⟩
            have Ms60 := Lib.hid (List.mem_of_getElem? hs60)
            have Gs60 := Lib.hid hs60
            obtain ⟨S61, hS61⟩ : ∃ S, S = bs s60 := ⟨_, rfl⟩
            have ES61 := Lib.hid hS61
            clear hs60 hS61
            refine NextE.go (Z := Kp b W.heap.size) (u := u48) hK (Kp.of_ext _ hx54) (fun _ h9 => (Kp.of_ext _ hx54).trans h9) ?_
            clear hK K
            (try simp only [Act.put, sA, sZ, sS])
            try clear hx54
            refine tkA (i := 3) (d := some 118) (v := ?_) (Kp.refl _ _ _) ?_ ?_; rotate_left
            · (intro w9 hT9; clear hT9; go_simp; try with_reducible rfl)
            (try simp only [Act.put, sA, sZ, sS])
            refine tkA (i := 4) (d := some 119) (v := ?_) (Kp.refl _ _ _) ?_ ?_; rotate_left
            · (intro w9 hT9; have q9 := (HN57.out.kp hT9 hg55b hg55W).at_ _ _ Gs60.out; rw [← ES61.out] at q9; go_simp; try with_reducible rfl)
            (try simp only [Act.put, sA, sZ, sS])
            refine one (i := 9) (fun K hK => ?_)
            simp only [List.getElem_toArray, List.getElem_cons_succ, List.getElem_cons_zero]
            go_simp
            go_at_call 46
            refine (HSUB.out h1 _ _ HA56.out (by have := FN_up h1; omega)).mono ?_
            rintro e u62 hp9
            obtain ⟨d65, t66, rfl, hr9, hg9, ha9, hm63⟩ := HA56.out.sub hp9
            have HA64 := Lib.hid ha9
            have HR67 := Lib.hid hr9
            have HGt66 := Lib.hid hg9
            clear hp9 ha9 hr9 hg9
            simp only []
            have HSR68 := Lib.hid (HN57.out.mv hm63 hg55b)
            have HNX69 := Lib.hid (HNX58.out.mv hm63 hgb6)
            have HHT70 := Lib.hid (HHT59.out.mv hm63 hbW)
            refine NextE.go (Z := Kp b W.heap.size) (u := u53) hK (Kp.of_mv _ hm63) (fun _ h9 => (Kp.of_mv _ hm63).trans h9) ?_
            clear hK K
            (try simp only [Act.put, sA, sZ, sS])
            try clear hm63
            refine one (i := 10) (fun K hK => ?_)
            simp only [List.getElem_toArray, List.getElem_cons_succ, List.getElem_cons_zero]
            go_simp
            have hx72 : Ext u62 (u62.alloc (.cells #[.int .i64 d1.k, .int .i64 d1.n, .string d1.s, .slice d1.A d1.m d1.c, .int .i64 d65.k, .int .i64 d65.n, .string d65.s, .slice d65.A d65.m d65.c] 31)) := (Ext.refl _).alloc _
            have hn9 : ∀ (k n : Int) (s : List UInt8), HT W (u62.alloc (.cells #[.int .i64 d1.k, .int .i64 d1.n, .string d1.s, .slice d1.A d1.m d1.c, .int .i64 d65.k, .int .i64 d65.n, .string d65.s, .slice d65.A d65.m d65.c] 31)) ⟨k, n, bs s, some ⟨u62.heap.size, 0, none⟩, 2, 2⟩ (.nd k n s [t1, t66]) := fun k n s => HT.node HA64.out.sz k n s [d1, d65] [t1, t66] #[.int .i64 d1.k, .int .i64 d1.n, .string d1.s, .slice d1.A d1.m d1.c, .int .i64 d65.k, .int .i64 d65.n, .string d65.s, .slice d65.A d65.m d65.c] 2 rfl rfl (HT.kids2 HHT70.out HR67.out)
            obtain ⟨u71, hu9⟩ : ∃ x, x = u62.alloc (.cells #[.int .i64 d1.k, .int .i64 d1.n, .string d1.s, .slice d1.A d1.m d1.c, .int .i64 d65.k, .int .i64 d65.n, .string d65.s, .slice d65.A d65.m d65.c] 31) := ⟨_, rfl⟩
            obtain ⟨g73, hg73⟩ : ∃ x, x = u62.heap.size := ⟨_, rfl⟩
            have hg73b : g73 ≠ b := by have := HA64.out.sz; omega
            have hg73W : g73 ≠ W.heap.size := by have := HA64.out.sz; omega
            rw [← hu9, ← hg73] at hn9
            rw [← hu9] at hx72 ⊢
            rw [← hg73]
            have HA74 := Lib.hid (HA64.out.ext hx72)
            have HN75 := Lib.hid hn9
            clear hu9 hn9 hg73
            have HSR76 := Lib.hid (HSR68.out.mv (Mv.of_ext hx72) hg55b)
            have HNX77 := Lib.hid (HNX69.out.mv (Mv.of_ext hx72) hgb6)
            have HHT78 := Lib.hid (HHT70.out.mv (Mv.of_ext hx72) hbW)
            have HHT79 := Lib.hid (HR67.out.mv (Mv.of_ext hx72) hbW)
            refine NextE.go (Z := Kp b W.heap.size) (u := u62) hK (Kp.of_ext _ hx72) (fun _ h9 => (Kp.of_ext _ hx72).trans h9) ?_
            clear hK K
            (try simp only [Act.put, sA, sZ, sS])
            try clear hx72
            refine one (i := 11) (fun K hK => ?_)
            simp only [List.getElem_toArray, List.getElem_cons_succ, List.getElem_cons_zero]
            go_simp
            go_at_call 96
            refine (mnode_any _ _ _ _ _ _).mono ?_
            rintro e u80 ⟨rfl, hx81⟩
            simp only []
            have HSR83 := Lib.hid (HSR76.out.mv (Mv.of_ext hx81) hg55b)
            have HNX84 := Lib.hid (HNX77.out.mv (Mv.of_ext hx81) hgb6)
            have HHT85 := Lib.hid (HHT78.out.mv (Mv.of_ext hx81) hbW)
            have HHT86 := Lib.hid (HHT79.out.mv (Mv.of_ext hx81) hbW)
            have HRW87 := Lib.hid (fun k n s => (HN75.out k n s).mv (Mv.of_ext hx81) hbW)
            have HA82 := Lib.hid (HA74.out.ext hx81)
            refine NextE.go (Z := Kp b W.heap.size) (u := u71) hK (Kp.of_ext _ hx81) (fun _ h9 => (Kp.of_ext _ hx81).trans h9) ?_
            clear hK K
            (try simp only [Act.put, sA, sZ, sS])
            try clear hx81
            refine one (i := 12) (fun K hK => ?_)
            obtain ⟨_, z0, z1, z2, z3, z4, z5, z6, z7⟩ := HA82.out.nx.nb
            simp only [List.getElem_toArray, List.getElem_cons_succ, List.getElem_cons_zero]
            go_simp
            refine hK.out _ _ ⟨fun _ => trivial, Kp.set4 _ _ _ _⟩ (fun _ => ?_)
            clear hK K
            (try simp only [Act.put, sA, sZ, sS])
            refine wpE_done (by kernel_rfl) ?_ _
            go_wp2_with fail
            refine bodyPost_ret (v := .agg #[.int .i64 10, .int .i64 0, .string S61, .slice (some ⟨g73, 0, none⟩) 2 2]) (by simp [results, Tryz.results46, go_sem, *]) rfl ?_
            exact HA82.out.fin (by have := FN_up h1; omega) ⟨10, 0, S61, some ⟨g73, 0, none⟩, 2, 2⟩ (.nd 10 0 s60 [t1, t66]) (by rw [ES61.out]; exact HRW87.out 10 0 s60) (.up h1 (.call22 (by have := Ms60.out; revert this; simp [functions]; rintro (h | h | h) <;> simp [h]) (by have := Ms60.out; revert this; simp; rintro (h | h | h) <;> rw [h] <;> decide) HGt1.out.1 HGt66.out.1) (by have := HGt66.out.2; have := HGt1.out.2; simp only [tszs]; omega))
          · skip
            simp only [List.getElem_toArray, List.getElem_cons_succ, List.getElem_cons_zero]
            go_simp
            go_at_call 46
            refine (HSUB.out h1 _ _ HA50.out (by have := FN_up h1; omega)).mono ?_
            rintro e u88 hp9
            obtain ⟨d91, t92, rfl, hr9, hg9, ha9, hm89⟩ := HA50.out.sub hp9
            have HA90 := Lib.hid ha9
            have HR93 := Lib.hid hr9
            have HGt92 := Lib.hid hg9
            clear hp9 ha9 hr9 hg9
            simp only []
            have HNX94 := Lib.hid (HNX51.out.mv hm89 hgb6)
            have HHT95 := Lib.hid (HHT52.out.mv hm89 hbW)
            refine NextE.go (Z := Kp b W.heap.size) (u := u48) hK (Kp.of_mv _ hm89) (fun _ h9 => (Kp.of_mv _ hm89).trans h9) ?_
            clear hK K
            (try simp only [Act.put, sA, sZ, sS])
            try clear hm89
            refine two (i := 0) (j := 10) (fun K hK => ?_) (fun K hK => ?_)
            · skip
              simp only [List.getElem_toArray, List.getElem_cons_zero]
              go_simp
              have hx97 : Ext u88 (u88.alloc (.cells #[.string ⟨#[108, 97, 116, 101, 114]⟩, .string ⟨#[101, 97, 114, 108, 105, 101, 114]⟩, .string ⟨#[98, 101, 116, 119, 101, 101, 110]⟩] 9)) := (Ext.refl _).alloc _
              have hn9 := SR.new u88 [wLater, wEarlier, wBetween] #[.string ⟨#[108, 97, 116, 101, 114]⟩, .string ⟨#[101, 97, 114, 108, 105, 101, 114]⟩, .string ⟨#[98, 101, 116, 119, 101, 101, 110]⟩] rfl
              obtain ⟨u96, hu9⟩ : ∃ x, x = u88.alloc (.cells #[.string ⟨#[108, 97, 116, 101, 114]⟩, .string ⟨#[101, 97, 114, 108, 105, 101, 114]⟩, .string ⟨#[98, 101, 116, 119, 101, 101, 110]⟩] 9) := ⟨_, rfl⟩
              obtain ⟨g98, hg98⟩ : ∃ x, x = u88.heap.size := ⟨_, rfl⟩
              have hg98b : g98 ≠ b := by have := HA90.out.sz; omega
              have hg98W : g98 ≠ W.heap.size := by have := HA90.out.sz; omega
              rw [← hu9, ← hg98] at hn9
              rw [← hu9] at hx97 ⊢
              rw [← hg98]
              have HA99 := Lib.hid (HA90.out.ext hx97)
              have HN100 := Lib.hid hn9
              clear hu9 hn9 hg98
              have HNX101 := Lib.hid (HNX94.out.mv (Mv.of_ext hx97) hgb6)
              have HHT102 := Lib.hid (HHT95.out.mv (Mv.of_ext hx97) hbW)
              have HHT103 := Lib.hid (HR93.out.mv (Mv.of_ext hx97) hbW)
              obtain ⟨s104, hs104⟩ : ∃ s, ([wLater, wEarlier, wBetween] : List (List UInt8))[k47]? = some s := ⟨_, List.getElem?_eq_getElem (by simpa using hk47)⟩
              have Ms104 := Lib.hid (List.mem_of_getElem? hs104)
              have Gs104 := Lib.hid hs104
              obtain ⟨S105, hS105⟩ : ∃ S, S = bs s104 := ⟨_, rfl⟩
              have ES105 := Lib.hid hS105
              clear hs104 hS105
              refine NextE.go (Z := Kp b W.heap.size) (u := u88) hK (Kp.of_ext _ hx97) (fun _ h9 => (Kp.of_ext _ hx97).trans h9) ?_
              clear hK K
              (try simp only [Act.put, sA, sZ, sS])
              try clear hx97
              refine tkA (i := 3) (d := some 118) (v := ?_) (Kp.refl _ _ _) ?_ ?_; rotate_left
              · (intro w9 hT9; clear hT9; go_simp; try with_reducible rfl)
              (try simp only [Act.put, sA, sZ, sS])
              refine tkA (i := 4) (d := some 119) (v := ?_) (Kp.refl _ _ _) ?_ ?_; rotate_left
              · (intro w9 hT9; have q9 := (HN100.out.kp hT9 hg98b hg98W).at_ _ _ Gs104.out; rw [← ES105.out] at q9; go_simp; try with_reducible rfl)
              (try simp only [Act.put, sA, sZ, sS])
              refine one (i := 10) (fun K hK => ?_)
              simp only [List.getElem_toArray, List.getElem_cons_succ, List.getElem_cons_zero]
              go_simp
              have hx107 : Ext u96 (u96.alloc (.cells #[.int .i64 d1.k, .int .i64 d1.n, .string d1.s, .slice d1.A d1.m d1.c, .int .i64 d91.k, .int .i64 d91.n, .string d91.s, .slice d91.A d91.m d91.c] 31)) := (Ext.refl _).alloc _
              have hn9 : ∀ (k n : Int) (s : List UInt8), HT W (u96.alloc (.cells #[.int .i64 d1.k, .int .i64 d1.n, .string d1.s, .slice d1.A d1.m d1.c, .int .i64 d91.k, .int .i64 d91.n, .string d91.s, .slice d91.A d91.m d91.c] 31)) ⟨k, n, bs s, some ⟨u96.heap.size, 0, none⟩, 2, 2⟩ (.nd k n s [t1, t92]) := fun k n s => HT.node HA99.out.sz k n s [d1, d91] [t1, t92] #[.int .i64 d1.k, .int .i64 d1.n, .string d1.s, .slice d1.A d1.m d1.c, .int .i64 d91.k, .int .i64 d91.n, .string d91.s, .slice d91.A d91.m d91.c] 2 rfl rfl (HT.kids2 HHT102.out HHT103.out)
              obtain ⟨u106, hu9⟩ : ∃ x, x = u96.alloc (.cells #[.int .i64 d1.k, .int .i64 d1.n, .string d1.s, .slice d1.A d1.m d1.c, .int .i64 d91.k, .int .i64 d91.n, .string d91.s, .slice d91.A d91.m d91.c] 31) := ⟨_, rfl⟩
              obtain ⟨g108, hg108⟩ : ∃ x, x = u96.heap.size := ⟨_, rfl⟩
              have hg108b : g108 ≠ b := by have := HA99.out.sz; omega
              have hg108W : g108 ≠ W.heap.size := by have := HA99.out.sz; omega
              rw [← hu9, ← hg108] at hn9
              rw [← hu9] at hx107 ⊢
              rw [← hg108]
              have HA109 := Lib.hid (HA99.out.ext hx107)
              have HN110 := Lib.hid hn9
              clear hu9 hn9 hg108
              have HSR111 := Lib.hid (HN100.out.mv (Mv.of_ext hx107) hg98b)
              have HNX112 := Lib.hid (HNX101.out.mv (Mv.of_ext hx107) hgb6)
              have HHT113 := Lib.hid (HHT102.out.mv (Mv.of_ext hx107) hbW)
              have HHT114 := Lib.hid (HHT103.out.mv (Mv.of_ext hx107) hbW)
              refine NextE.go (Z := Kp b W.heap.size) (u := u96) hK (Kp.of_ext _ hx107) (fun _ h9 => (Kp.of_ext _ hx107).trans h9) ?_
              clear hK K
              (try simp only [Act.put, sA, sZ, sS])
              try clear hx107
              refine one (i := 11) (fun K hK => ?_)
              simp only [List.getElem_toArray, List.getElem_cons_succ, List.getElem_cons_zero]
              go_simp
              go_at_call 96
              refine (mnode_any _ _ _ _ _ _).mono ?_
              rintro e u115 ⟨rfl, hx116⟩
              simp only []
              have HSR118 := Lib.hid (HSR111.out.mv (Mv.of_ext hx116) hg98b)
              have HNX119 := Lib.hid (HNX112.out.mv (Mv.of_ext hx116) hgb6)
              have HHT120 := Lib.hid (HHT113.out.mv (Mv.of_ext hx116) hbW)
              have HHT121 := Lib.hid (HHT114.out.mv (Mv.of_ext hx116) hbW)
              have HRW122 := Lib.hid (fun k n s => (HN110.out k n s).mv (Mv.of_ext hx116) hbW)
              have HA117 := Lib.hid (HA109.out.ext hx116)
              refine NextE.go (Z := Kp b W.heap.size) (u := u106) hK (Kp.of_ext _ hx116) (fun _ h9 => (Kp.of_ext _ hx116).trans h9) ?_
              clear hK K
              (try simp only [Act.put, sA, sZ, sS])
              try clear hx116
              refine one (i := 12) (fun K hK => ?_)
              obtain ⟨_, z0, z1, z2, z3, z4, z5, z6, z7⟩ := HA117.out.nx.nb
              simp only [List.getElem_toArray, List.getElem_cons_succ, List.getElem_cons_zero]
              go_simp
              refine hK.out _ _ ⟨fun _ => trivial, Kp.set4 _ _ _ _⟩ (fun _ => ?_)
              clear hK K
              (try simp only [Act.put, sA, sZ, sS])
              refine wpE_done (by kernel_rfl) ?_ _
              go_wp2_with fail
              refine bodyPost_ret (v := .agg #[.int .i64 10, .int .i64 0, .string S105, .slice (some ⟨g108, 0, none⟩) 2 2]) (by simp [results, Tryz.results46, go_sem, *]) rfl ?_
              exact HA117.out.fin (by have := FN_up h1; omega) ⟨10, 0, S105, some ⟨g108, 0, none⟩, 2, 2⟩ (.nd 10 0 s104 [t1, t92]) (by rw [ES105.out]; exact HRW122.out 10 0 s104) (.up h1 (.call22 (by have := Ms104.out; revert this; simp [functions]; rintro (h | h | h) <;> simp [h]) (by have := Ms104.out; revert this; simp; rintro (h | h | h) <;> rw [h] <;> decide) HGt1.out.1 HGt92.out.1) (by have := HGt92.out.2; have := HGt1.out.2; simp only [tszs]; omega))
            · skip
              simp only [List.getElem_toArray, List.getElem_cons_succ, List.getElem_cons_zero]
              go_simp
              have hx124 : Ext u88 (u88.alloc (.cells #[.int .i64 d1.k, .int .i64 d1.n, .string d1.s, .slice d1.A d1.m d1.c, .int .i64 d91.k, .int .i64 d91.n, .string d91.s, .slice d91.A d91.m d91.c] 31)) := (Ext.refl _).alloc _
              have hn9 : ∀ (k n : Int) (s : List UInt8), HT W (u88.alloc (.cells #[.int .i64 d1.k, .int .i64 d1.n, .string d1.s, .slice d1.A d1.m d1.c, .int .i64 d91.k, .int .i64 d91.n, .string d91.s, .slice d91.A d91.m d91.c] 31)) ⟨k, n, bs s, some ⟨u88.heap.size, 0, none⟩, 2, 2⟩ (.nd k n s [t1, t92]) := fun k n s => HT.node HA90.out.sz k n s [d1, d91] [t1, t92] #[.int .i64 d1.k, .int .i64 d1.n, .string d1.s, .slice d1.A d1.m d1.c, .int .i64 d91.k, .int .i64 d91.n, .string d91.s, .slice d91.A d91.m d91.c] 2 rfl rfl (HT.kids2 HHT95.out HR93.out)
              obtain ⟨u123, hu9⟩ : ∃ x, x = u88.alloc (.cells #[.int .i64 d1.k, .int .i64 d1.n, .string d1.s, .slice d1.A d1.m d1.c, .int .i64 d91.k, .int .i64 d91.n, .string d91.s, .slice d91.A d91.m d91.c] 31) := ⟨_, rfl⟩
              obtain ⟨g125, hg125⟩ : ∃ x, x = u88.heap.size := ⟨_, rfl⟩
              have hg125b : g125 ≠ b := by have := HA90.out.sz; omega
              have hg125W : g125 ≠ W.heap.size := by have := HA90.out.sz; omega
              rw [← hu9, ← hg125] at hn9
              rw [← hu9] at hx124 ⊢
              rw [← hg125]
              have HA126 := Lib.hid (HA90.out.ext hx124)
              have HN127 := Lib.hid hn9
              clear hu9 hn9 hg125
              have HNX128 := Lib.hid (HNX94.out.mv (Mv.of_ext hx124) hgb6)
              have HHT129 := Lib.hid (HHT95.out.mv (Mv.of_ext hx124) hbW)
              have HHT130 := Lib.hid (HR93.out.mv (Mv.of_ext hx124) hbW)
              refine NextE.go (Z := Kp b W.heap.size) (u := u88) hK (Kp.of_ext _ hx124) (fun _ h9 => (Kp.of_ext _ hx124).trans h9) ?_
              clear hK K
              (try simp only [Act.put, sA, sZ, sS])
              try clear hx124
              refine one (i := 0) (fun K hK => ?_)
              simp only [List.getElem_toArray, List.getElem_cons_zero]
              go_simp
              have hx132 : Ext u123 (u123.alloc (.cells #[.string ⟨#[108, 97, 116, 101, 114]⟩, .string ⟨#[101, 97, 114, 108, 105, 101, 114]⟩, .string ⟨#[98, 101, 116, 119, 101, 101, 110]⟩] 9)) := (Ext.refl _).alloc _
              have hn9 := SR.new u123 [wLater, wEarlier, wBetween] #[.string ⟨#[108, 97, 116, 101, 114]⟩, .string ⟨#[101, 97, 114, 108, 105, 101, 114]⟩, .string ⟨#[98, 101, 116, 119, 101, 101, 110]⟩] rfl
              obtain ⟨u131, hu9⟩ : ∃ x, x = u123.alloc (.cells #[.string ⟨#[108, 97, 116, 101, 114]⟩, .string ⟨#[101, 97, 114, 108, 105, 101, 114]⟩, .string ⟨#[98, 101, 116, 119, 101, 101, 110]⟩] 9) := ⟨_, rfl⟩
              obtain ⟨g133, hg133⟩ : ∃ x, x = u123.heap.size := ⟨_, rfl⟩
              have hg133b : g133 ≠ b := by have := HA126.out.sz; omega
              have hg133W : g133 ≠ W.heap.size := by have := HA126.out.sz; omega
              rw [← hu9, ← hg133] at hn9
              rw [← hu9] at hx132 ⊢
              rw [← hg133]
              have HA134 := Lib.hid (HA126.out.ext hx132)
              have HN135 := Lib.hid hn9
              clear hu9 hn9 hg133
              have HNX136 := Lib.hid (HNX128.out.mv (Mv.of_ext hx132) hgb6)
              have HHT137 := Lib.hid (HHT129.out.mv (Mv.of_ext hx132) hbW)
              have HHT138 := Lib.hid (HHT130.out.mv (Mv.of_ext hx132) hbW)
              have HRW139 := Lib.hid (fun k n s => (HN127.out k n s).mv (Mv.of_ext hx132) hbW)
              obtain ⟨s140, hs140⟩ : ∃ s, ([wLater, wEarlier, wBetween] : List (List UInt8))[k47]? = some s := ⟨_, List.getElem?_eq_getElem (by simpa using hk47)⟩
              have Ms140 := Lib.hid (List.mem_of_getElem? hs140)
              have Gs140 := Lib.hid hs140
              obtain ⟨S141, hS141⟩ : ∃ S, S = bs s140 := ⟨_, rfl⟩
              have ES141 := Lib.hid hS141
              clear hs140 hS141
              refine NextE.go (Z := Kp b W.heap.size) (u := u123) hK (Kp.of_ext _ hx132) (fun _ h9 => (Kp.of_ext _ hx132).trans h9) ?_
              clear hK K
              (try simp only [Act.put, sA, sZ, sS])
              try clear hx132
              refine tkA (i := 3) (d := some 118) (v := ?_) (Kp.refl _ _ _) ?_ ?_; rotate_left
              · (intro w9 hT9; clear hT9; go_simp; try with_reducible rfl)
              (try simp only [Act.put, sA, sZ, sS])
              refine tkA (i := 4) (d := some 119) (v := ?_) (Kp.refl _ _ _) ?_ ?_; rotate_left
              · (intro w9 hT9; have q9 := (HN135.out.kp hT9 hg133b hg133W).at_ _ _ Gs140.out; rw [← ES141.out] at q9; go_simp; try with_reducible rfl)
              (try simp only [Act.put, sA, sZ, sS])
              refine one (i := 11) (fun K hK => ?_)
              simp only [List.getElem_toArray, List.getElem_cons_succ, List.getElem_cons_zero]
              go_simp
              go_at_call 96
              refine (mnode_any _ _ _ _ _ _).mono ?_
              rintro e u142 ⟨rfl, hx143⟩
              simp only []
              have HSR145 := Lib.hid (HN135.out.mv (Mv.of_ext hx143) hg133b)
              have HNX146 := Lib.hid (HNX136.out.mv (Mv.of_ext hx143) hgb6)
              have HHT147 := Lib.hid (HHT137.out.mv (Mv.of_ext hx143) hbW)
              have HHT148 := Lib.hid (HHT138.out.mv (Mv.of_ext hx143) hbW)
              have HRW149 := Lib.hid (fun k n s => (HRW139.out k n s).mv (Mv.of_ext hx143) hbW)
              have HA144 := Lib.hid (HA134.out.ext hx143)
              refine NextE.go (Z := Kp b W.heap.size) (u := u131) hK (Kp.of_ext _ hx143) (fun _ h9 => (Kp.of_ext _ hx143).trans h9) ?_
              clear hK K
              (try simp only [Act.put, sA, sZ, sS])
              try clear hx143
              refine one (i := 12) (fun K hK => ?_)
              obtain ⟨_, z0, z1, z2, z3, z4, z5, z6, z7⟩ := HA144.out.nx.nb
              simp only [List.getElem_toArray, List.getElem_cons_succ, List.getElem_cons_zero]
              go_simp
              refine hK.out _ _ ⟨fun _ => trivial, Kp.set4 _ _ _ _⟩ (fun _ => ?_)
              clear hK K
              (try simp only [Act.put, sA, sZ, sS])
              refine wpE_done (by kernel_rfl) ?_ _
              go_wp2_with fail
              refine bodyPost_ret (v := .agg #[.int .i64 10, .int .i64 0, .string S141, .slice (some ⟨g125, 0, none⟩) 2 2]) (by simp [results, Tryz.results46, go_sem, *]) rfl ?_
              exact HA144.out.fin (by have := FN_up h1; omega) ⟨10, 0, S141, some ⟨g125, 0, none⟩, 2, 2⟩ (.nd 10 0 s140 [t1, t92]) (by rw [ES141.out]; exact HRW149.out 10 0 s140) (.up h1 (.call22 (by have := Ms140.out; revert this; simp [functions]; rintro (h | h | h) <;> simp [h]) (by have := Ms140.out; revert this; simp; rintro (h | h | h) <;> rw [h] <;> decide) HGt1.out.1 HGt92.out.1) (by have := HGt92.out.2; have := HGt1.out.2; simp only [tszs]; omega))
      · have h1I : (1 : Int) ≤ (deep : Int) := by omega
        have hwd : IntKind.i64.wrap ((deep : Int) - 1) = (deep : Int) - 1 := IntWalk.i64_in _ (by omega)
        go_upto_region 29 with (first | (go_at_call 46; refine (HSUB.out h1 _ _ HA.out (by have := FN_up h1; omega)).mono ?_; rintro e u1 hp; obtain ⟨d1, t1, rfl, hr1, hg1, ha1, hm1⟩ := HA.out.sub hp; have HA1 := Lib.hid ha1; have HR1 := Lib.hid hr1; have HGt1 := Lib.hid hg1; clear hp ha1 hr1 hg1))
        have hx6 : Ext u1 (u1.alloc (.cells #[.int .i64 d1.k, .int .i64 d1.n, .string d1.s, .slice d1.A d1.m d1.c] 31)) := (Ext.refl _).alloc _
        have hc6 : NX (u1.alloc (.cells #[.int .i64 d1.k, .int .i64 d1.n, .string d1.s, .slice d1.A d1.m d1.c] 31)) u1.heap.size d1.k d1.n d1.s (.slice d1.A d1.m d1.c) := heap_alloc_new _ _
        generalize u1.alloc (.cells #[.int .i64 d1.k, .int .i64 d1.n, .string d1.s, .slice d1.A d1.m d1.c] 31) = w6 at *
        have hgb6 : u1.heap.size ≠ b := by have := HA1.out.sz; omega
        have hgW6 : u1.heap.size ≠ W.heap.size := by have := HA1.out.sz; omega
        generalize u1.heap.size = g6 at *
        have HC6 := Lib.hid hc6
        have HB6 := Lib.hid (HA1.out.ext hx6)
        have HR6 := Lib.hid (HR1.out.mv (Mv.of_ext hx6) hbW)
        clear hc6 hx6
        have hx2 : Ext w6 (w6.alloc (.cells #[.string ⟨#[111, 114]⟩, .string ⟨#[97, 110, 100]⟩, .string ⟨#[60]⟩, .string ⟨#[60, 61]⟩, .string ⟨#[61]⟩, .string ⟨#[33, 61]⟩, .string ⟨#[62]⟩, .string ⟨#[62, 61]⟩, .string ⟨#[43]⟩, .string ⟨#[45]⟩, .string ⟨#[42]⟩] 9)) := (Ext.refl _).alloc _
        have hsr := SR.new w6 [wOr, wAnd, wLt, wLe, wEq, wNe, wGt, wGe, wPlus, wMinus, wStar] #[.string ⟨#[111, 114]⟩, .string ⟨#[97, 110, 100]⟩, .string ⟨#[60]⟩, .string ⟨#[60, 61]⟩, .string ⟨#[61]⟩, .string ⟨#[33, 61]⟩, .string ⟨#[62]⟩, .string ⟨#[62, 61]⟩, .string ⟨#[43]⟩, .string ⟨#[45]⟩, .string ⟨#[42]⟩] rfl
        have hgb : w6.heap.size ≠ b := by have := HB6.out.sz; omega
        have HA2 := Lib.hid (HB6.out.ext hx2)
        have HC7 := Lib.hid (HC6.out.mv (Mv.of_ext hx2) hgb6)
        have HR7 := Lib.hid (HR6.out.mv (Mv.of_ext hx2) hbW)
        go_upto_region 30 with (first
          | (go_at_call 44; refine (HA2.out.nextI (by have := FN_up h1; omega) 11 11 rfl (by decide) (by decide)).mono ?_; rintro e u2 ⟨k1, rfl, hk1, ha1, hm1⟩; have HA3 := Lib.hid ha1; have hk1I : (k1 : Int) < 11 := by omega
             obtain ⟨s1, hs1⟩ : ∃ s, (opl : List (List UInt8))[k1]? = some s := ⟨_, List.getElem?_eq_getElem (by simpa [opl] using hk1)⟩
             have M1 := Lib.hid (List.mem_of_getElem? hs1)
             have q9 := (hsr.mv hm1 hgb).at_ _ _ hs1
             obtain ⟨S1, hS1⟩ : ∃ S, S = bs s1 := ⟨_, rfl⟩
             rw [← hS1] at q9
             have ES1 := Lib.hid hS1
             have HC8 := Lib.hid (HC7.out.mv hm1 hgb6)
             have HR8 := Lib.hid (HR7.out.mv hm1 hbW)
             clear hS1 hs1 hsr ha1 hm1))
        clear q9
        refine wp_region_E (fun _ => True) (fun X => Kp b W.heap.size u2 X) (fun _ => true) (by kernel_rfl) ?_
        obtain ⟨u1, hu9, hx9⟩ : ∃ x, u2.drew = x ∧ Ext u2 x := ⟨_, rfl, (Ext.refl _).drew⟩
        rw [hu9]
        clear hu9
        have HNX3 := Lib.hid (HC8.out.mv (Mv.of_ext hx9) hgb6)
        have HHT4 := Lib.hid (HR8.out.mv (Mv.of_ext hx9) hbW)
        have HA2 := Lib.hid (HA3.out.ext hx9)
        refine wpE_strong (T' := fun X => Kp b W.heap.size u1 X) (fun _ h9 => (Kp.of_ext _ hx9).trans h9) _ _ _ _ ?_
        clear hx9
        refine tkA (i := 0) (d := some 136) (v := ?_) (Kp.refl _ _ _) ?_ ?_; rotate_left
        · (intro w9 hT9; clear hT9; go_simp; try with_reducible rfl)
        (try simp only [Act.put, sA, sZ, sS])
        refine tkA (i := 1) (d := some 137) (v := ?_) (Kp.refl _ _ _) ?_ ?_; rotate_left
        · (intro w9 hT9; obtain ⟨_, q0, q1, q2, q3, _, _, _, _⟩ := (HNX3.out.kp hT9 hgb6 hgW6).nb; go_simp; try with_reducible rfl)
        (try simp only [Act.put, sA, sZ, sS])
        refine tkA (i := 2) (d := some 138) (v := ?_) (Kp.refl _ _ _) ?_ ?_; rotate_left
        · (intro w9 hT9; clear hT9; go_simp; try with_reducible rfl)
        (try simp only [Act.put, sA, sZ, sS])
        refine tkA (i := 3) (d := some 139) (v := ?_) (Kp.refl _ _ _) ?_ ?_; rotate_left
        · (intro w9 hT9; clear hT9; go_simp; try with_reducible rfl)
        (try simp only [Act.put, sA, sZ, sS])
        refine tkA (i := 4) (d := some 140) (v := ?_) (Kp.refl _ _ _) ?_ ?_; rotate_left
        · (intro w9 hT9; clear hT9; go_simp; try with_reducible rfl)
        (try simp only [Act.put, sA, sZ, sS])
        refine one (i := 5) (fun K hK => ?_)
        simp only [List.getElem_toArray, List.getElem_cons_succ, List.getElem_cons_zero]
        go_simp
        go_at_call 46
        refine (HSUB.out h1 _ _ HA2.out (by have := FN_up h1; omega)).mono ?_
        rintro e u5 hp9
        obtain ⟨d8, t9, rfl, hr9, hg9, ha9, hm6⟩ := HA2.out.sub hp9
        have HA7 := Lib.hid ha9
        have HR10 := Lib.hid hr9
        have HGt9 := Lib.hid hg9
        clear hp9 ha9 hr9 hg9
        simp only []
        have HNX11 := Lib.hid (HNX3.out.mv hm6 hgb6)
        have HHT12 := Lib.hid (HHT4.out.mv hm6 hbW)
        refine NextE.go (Z := Kp b W.heap.size) (u := u1) hK (Kp.of_mv _ hm6) (fun _ h9 => (Kp.of_mv _ hm6).trans h9) ?_
        clear hK K
        (try simp only [Act.put, sA, sZ, sS])
        try clear hm6
        refine one (i := 6) (fun K hK => ?_)
        simp only [List.getElem_toArray, List.getElem_cons_succ, List.getElem_cons_zero]
        go_simp
        have hx14 : Ext u5 (u5.alloc (.cells #[.int .i64 d1.k, .int .i64 d1.n, .string d1.s, .slice d1.A d1.m d1.c, .int .i64 d8.k, .int .i64 d8.n, .string d8.s, .slice d8.A d8.m d8.c] 31)) := (Ext.refl _).alloc _
        have hn9 : ∀ (k n : Int) (s : List UInt8), HT W (u5.alloc (.cells #[.int .i64 d1.k, .int .i64 d1.n, .string d1.s, .slice d1.A d1.m d1.c, .int .i64 d8.k, .int .i64 d8.n, .string d8.s, .slice d8.A d8.m d8.c] 31)) ⟨k, n, bs s, some ⟨u5.heap.size, 0, none⟩, 2, 2⟩ (.nd k n s [t1, t9]) := fun k n s => HT.node HA7.out.sz k n s [d1, d8] [t1, t9] #[.int .i64 d1.k, .int .i64 d1.n, .string d1.s, .slice d1.A d1.m d1.c, .int .i64 d8.k, .int .i64 d8.n, .string d8.s, .slice d8.A d8.m d8.c] 2 rfl rfl (HT.kids2 HHT12.out HR10.out)
        obtain ⟨u13, hu9⟩ : ∃ x, x = u5.alloc (.cells #[.int .i64 d1.k, .int .i64 d1.n, .string d1.s, .slice d1.A d1.m d1.c, .int .i64 d8.k, .int .i64 d8.n, .string d8.s, .slice d8.A d8.m d8.c] 31) := ⟨_, rfl⟩
        obtain ⟨g15, hg15⟩ : ∃ x, x = u5.heap.size := ⟨_, rfl⟩
        have hg15b : g15 ≠ b := by have := HA7.out.sz; omega
        have hg15W : g15 ≠ W.heap.size := by have := HA7.out.sz; omega
        rw [← hu9, ← hg15] at hn9
        rw [← hu9] at hx14 ⊢
        rw [← hg15]
        have HA16 := Lib.hid (HA7.out.ext hx14)
        have HN17 := Lib.hid hn9
        clear hu9 hn9 hg15
        have HNX18 := Lib.hid (HNX11.out.mv (Mv.of_ext hx14) hgb6)
        have HHT19 := Lib.hid (HHT12.out.mv (Mv.of_ext hx14) hbW)
        have HHT20 := Lib.hid (HR10.out.mv (Mv.of_ext hx14) hbW)
        refine NextE.go (Z := Kp b W.heap.size) (u := u5) hK (Kp.of_ext _ hx14) (fun _ h9 => (Kp.of_ext _ hx14).trans h9) ?_
        clear hK K
        (try simp only [Act.put, sA, sZ, sS])
        try clear hx14
        refine one (i := 7) (fun K hK => ?_)
        simp only [List.getElem_toArray, List.getElem_cons_succ, List.getElem_cons_zero]
        go_simp
        go_at_call 96
        refine (mnode_any _ _ _ _ _ _).mono ?_
        rintro e u21 ⟨rfl, hx22⟩
        simp only []
        have HNX24 := Lib.hid (HNX18.out.mv (Mv.of_ext hx22) hgb6)
        have HHT25 := Lib.hid (HHT19.out.mv (Mv.of_ext hx22) hbW)
        have HHT26 := Lib.hid (HHT20.out.mv (Mv.of_ext hx22) hbW)
        have HRW27 := Lib.hid (fun k n s => (HN17.out k n s).mv (Mv.of_ext hx22) hbW)
        have HA23 := Lib.hid (HA16.out.ext hx22)
        refine NextE.go (Z := Kp b W.heap.size) (u := u13) hK (Kp.of_ext _ hx22) (fun _ h9 => (Kp.of_ext _ hx22).trans h9) ?_
        clear hK K
        (try simp only [Act.put, sA, sZ, sS])
        try clear hx22
        refine one (i := 8) (fun K hK => ?_)
        obtain ⟨_, z0, z1, z2, z3, z4, z5, z6, z7⟩ := HA23.out.nx.nb
        simp only [List.getElem_toArray, List.getElem_cons_succ, List.getElem_cons_zero]
        go_simp
        refine hK.out _ _ ⟨fun _ => trivial, Kp.set4 _ _ _ _⟩ (fun _ => ?_)
        clear hK K
        (try simp only [Act.put, sA, sZ, sS])
        refine wpE_done (by kernel_rfl) ?_ _
        go_wp2_with fail
        refine bodyPost_ret (v := .agg #[.int .i64 6, .int .i64 0, .string S1, .slice (some ⟨g15, 0, none⟩) 2 2]) (by simp [results, Tryz.results46, go_sem, *]) rfl ?_
        exact HA23.out.fin (by have := FN_up h1; omega) ⟨6, 0, S1, some ⟨g15, 0, none⟩, 2, 2⟩ (.nd 6 0 s1 [t1, t9]) (by rw [ES1.out]; exact HRW27.out 6 0 s1) (.up h1 (.bin2 (opl_lv _ M1.out) HGt1.out.1 HGt9.out.1) (by have := HGt9.out.2; have := HGt1.out.2; simp only [tszs]; omega))
end Go.Proofs.YtnpenepdechkjaaGreatDoor
