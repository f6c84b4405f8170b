/- compare: walked. -/
import Derived.Test.YtdbnddmncbjobaaGreatDoorQbe
import Derived.Maps.OwnOps
import Derived.Maps.Views
import Derived.Shelf.SlSortCmp.WholeK
import Derived.Sort.OwnSorted
namespace Go.Proofs.YtdbnddmncbjobaaGreatDoor
section
open Go Go.RowKit Go.Sort
attribute [local go_sem] Oper.semAt_some

def cCmp (a b : Ct) : Int := if CLt a b then -1 else if CLt b a then 1 else 0
theorem cCmp_lt (a b : Ct) : cCmp a b < 0 ↔ CLt a b := by
  unfold cCmp
  by_cases h : CLt a b
  · simp [h]
  · by_cases h2 : CLt b a <;> simp [h, h2]
theorem cmpI_eq (x y : Int) : Lib.compareInt x y = if x < y then -1 else if y < x then 1 else 0 := rfl
theorem cCmp_br {a b : Ct} (h : a.br ≠ b.br) : cCmp a b = Lib.compareInt a.br b.br := by
  rw [cmpI_eq]
  unfold cCmp
  have e1 : CLt a b ↔ a.br < b.br := by unfold CLt; omega
  have e2 : CLt b a ↔ b.br < a.br := by unfold CLt; omega
  simp only [e1, e2]
theorem cCmp_l1 {a b : Ct} (h : a.br = b.br) (h1 : LbLt a.nu a.su b.nu b.su) : cCmp a b = -1 := by
  unfold cCmp
  rw [if_pos (by unfold CLt; unfold LbLt at h1; omega)]
theorem cCmp_l2 {a b : Ct} (h : a.br = b.br) (h1 : LbLt b.nu b.su a.nu a.su) : cCmp a b = 1 := by
  unfold cCmp
  rw [if_neg (by unfold CLt; unfold LbLt at h1; omega), if_pos (by unfold CLt; unfold LbLt at h1; omega)]
theorem cCmp_li {a b : Ct} (h : a.br = b.br) (h1 : ¬ LbLt a.nu a.su b.nu b.su) (h2 : ¬ LbLt b.nu b.su a.nu a.su) : cCmp a b = Lib.compareInt a.li b.li := by
  rw [cmpI_eq]
  unfold cCmp
  have e1 : CLt a b ↔ a.li < b.li := by unfold CLt; unfold LbLt at h1 h2; omega
  have e2 : CLt b a ↔ b.li < a.li := by unfold CLt; unfold LbLt at h1 h2; omega
  simp only [e1, e2]
set_option maxHeartbeats 400000 in
set_option maxRecDepth 100000 in
theorem compare_any (a b : Ct) (w : World) : Calls Tryz.prog 112 #[ctV a, ctV b] w fun e w' => e = .returned (.int .i64 (cCmp a b)) ∧ Gr w w' := by
  obtain ⟨v, hv⟩ : ∃ v, cCmp a b = v := ⟨_, rfl⟩
  rw [hv]
  obtain ⟨r1, n1, s1, l1⟩ := a
  obtain ⟨r2, n2, s2, l2⟩ := b
  unfold ctV
  have HC := Lib.hid Tryz.cmp_Compare_int
  obtain ⟨b1, hb1⟩ : ∃ b1, w.heap.size = b1 := ⟨_, rfl⟩
  have HV := Lib.hid hv
  clear hv
  have HL1 := Lib.hid (fun W => less_any n1 s1 n2 s2 W)
  have HL2 := Lib.hid (fun W => less_any n2 s2 n1 s1 W)
  go_enter Tryz.func112, Tryz.ntmps112
  go_upto_region 1 with (fail)
  obtain ⟨W1, hW1⟩ : ∃ W1, (w.alloc (.cells #[.int .i64 r1, .int .i64 n1, .int .i64 s1, .int .i64 l1] 69)).alloc (.cells #[.int .i64 r2, .int .i64 n2, .int .i64 s2, .int .i64 l2] 69) = W1 := ⟨_, rfl⟩
  rw [hW1]
  have hX0 : Gr w W1 := by rw [← hW1]; exact ((Gr.refl w).alloc _).alloc _
  have hB1 : W1.heap[b1]? = some (.cells #[.int .i64 r1, .int .i64 n1, .int .i64 s1, .int .i64 l1] 69 (0, 0)) := by
    rw [← hW1, ← hb1, heap_alloc_old _ _ _ (by simp)]
    exact heap_alloc_at _ _ _ _ rfl
  have hB2 : W1.heap[b1 + 1]? = some (.cells #[.int .i64 r2, .int .i64 n2, .int .i64 s2, .int .i64 l2] 69 (0, 0)) := by
    rw [← hW1, ← hb1]
    exact heap_alloc_at _ _ _ _ (by simp)
  have k1 := lt_of_block hB1
  have k2 := lt_of_block hB2
  have HX0 := Lib.hid hX0
  have HQ := Lib.hid (fun X (hX : Gr W1 X) => (show (X.cell? ⟨b1, 0, none⟩ = some (.int .i64 r1) ∧ X.cell? ⟨b1, 1, none⟩ = some (.int .i64 n1) ∧ X.cell? ⟨b1, 2, none⟩ = some (.int .i64 s1) ∧ X.cell? ⟨b1, 3, none⟩ = some (.int .i64 l1)) ∧
      (X.cell? ⟨b1 + 1, 0, none⟩ = some (.int .i64 r2) ∧ X.cell? ⟨b1 + 1, 1, none⟩ = some (.int .i64 n2) ∧ X.cell? ⟨b1 + 1, 2, none⟩ = some (.int .i64 s2) ∧ X.cell? ⟨b1 + 1, 3, none⟩ = some (.int .i64 l2)) from
    have h9 := (hX.ext.block _ k1).trans hB1
    have h8 := (hX.ext.block _ k2).trans hB2
    ⟨⟨cell_of h9 (i := 0) rfl, cell_of h9 (i := 1) rfl, cell_of h9 (i := 2) rfl, cell_of h9 (i := 3) rfl⟩, ⟨cell_of h8 (i := 0) rfl, cell_of h8 (i := 1) rfl, cell_of h8 (i := 2) rfl, cell_of h8 (i := 3) rfl⟩⟩))
  obtain ⟨⟨q0, q1, q2, q3⟩, ⟨t0, t1, t2, t3⟩⟩ := HQ.out _ (Gr.refl W1)
  clear hX0 hB1 hB2 k1 k2 hb1 hW1
  by_cases hr : r1 = r2
  case neg =>
    have d1 : (r1 != r2) = true := by simpa using hr
    have HF := Lib.hid ((cCmp_br (a := ⟨r1, n1, s1, l1⟩) (b := ⟨r2, n2, s2, l2⟩) hr).symm.trans HV.out)
    clear hr
    go_wp2_with (go_at_call 142; refine (HC.out _ _ _).mono ?_; rintro e w9 ⟨rfl, rfl⟩)
    go_ret
    exact ⟨ret_i HF.out, HX0.out⟩
  have d1 : (r1 != r2) = false := by simpa using hr
  by_cases h1 : LbLt n1 s1 n2 s2
  · have g1 : decide (LbLt n1 s1 n2 s2) = true := by simpa using h1
    rw [g1] at HL1
    have HF := Lib.hid ((cCmp_l1 (a := ⟨r1, n1, s1, l1⟩) (b := ⟨r2, n2, s2, l2⟩) hr h1).symm.trans HV.out)
    clear hr h1 g1
    go_wp2_with (go_at_call 143; refine (HL1.out _).mono ?_; rintro e w9 ⟨rfl, hG⟩)
    go_ret
    exact ⟨ret_i HF.out, HX0.out.trans hG⟩
  have g1 : decide (LbLt n1 s1 n2 s2) = false := by simpa using h1
  rw [g1] at HL1
  by_cases h2 : LbLt n2 s2 n1 s1
  · have g2 : decide (LbLt n2 s2 n1 s1) = true := by simpa using h2
    rw [g2] at HL2
    have HF := Lib.hid ((cCmp_l2 (a := ⟨r1, n1, s1, l1⟩) (b := ⟨r2, n2, s2, l2⟩) hr h2).symm.trans HV.out)
    clear hr h1 h2 g1 g2
    go_wp2_with (first
      | (go_at_call 143; have _t := HL1; refine (HL1.out _).mono ?_; rintro e w9 ⟨rfl, hG⟩; obtain ⟨⟨q0, q1, q2, q3⟩, ⟨t0, t1, t2, t3⟩⟩ := HQ.out _ hG; have HG := Lib.hid hG; clear hG HL1 _t)
      | (go_at_call 143; refine (HL2.out _).mono ?_; rintro e w8 ⟨rfl, hG⟩; have HG2 := Lib.hid hG; clear hG))
    go_ret
    exact ⟨ret_i HF.out, (HX0.out.trans HG.out).trans HG2.out⟩
  · have g2 : decide (LbLt n2 s2 n1 s1) = false := by simpa using h2
    rw [g2] at HL2
    have HF := Lib.hid ((cCmp_li (a := ⟨r1, n1, s1, l1⟩) (b := ⟨r2, n2, s2, l2⟩) hr h1 h2).symm.trans HV.out)
    clear hr h1 h2 g1 g2
    go_wp2_with (first
      | (go_at_call 143; have _t := HL1; refine (HL1.out _).mono ?_; rintro e w9 ⟨rfl, hG⟩; obtain ⟨⟨q0, q1, q2, q3⟩, ⟨t0, t1, t2, t3⟩⟩ := HQ.out _ hG; have HG := Lib.hid hG; clear hG HL1 _t)
      | (go_at_call 143; refine (HL2.out _).mono ?_; rintro e w8 ⟨rfl, hG⟩; obtain ⟨⟨q0, q1, q2, q3⟩, ⟨t0, t1, t2, t3⟩⟩ := HQ.out _ (HG.out.trans hG); have HG2 := Lib.hid hG; clear hG)
      | (go_at_call 142; refine (HC.out _ _ _).mono ?_; rintro e w9 ⟨rfl, rfl⟩))
    go_ret
    exact ⟨ret_i HF.out, (HX0.out.trans HG.out).trans HG2.out⟩
end
section
open Go Go.RowKit Go.Maps

def kCt : Lay Ct := (kInt.pair (kInt.pair (kInt.pair kInt))).via fun c => (c.br, c.nu, c.su, c.li)
theorem kCt_rep {W : World} {P : Nat → Prop} {c : Ct} {cs : List Value} : kCt.rep W P c cs ↔ cs = [.int .i64 c.br, .int .i64 c.nu, .int .i64 c.su, .int .i64 c.li] := by
  constructor
  · rintro ⟨_, _, rfl, rfl, _, _, rfl, rfl, _, _, rfl, rfl, rfl⟩; rfl
  · rintro rfl; exact ⟨_, _, rfl, rfl, _, _, rfl, rfl, _, _, rfl, rfl, rfl⟩
abbrev DV := DataW Value
/-- An element of the map is read as it stands. -/
def rV (v : Value) : Option (DV × List MemPlace) := some (.held v, [])
theorem lawS : Keyed Tryz.prog 9 := string_keyed Tryz.underlying9
theorem keyS {s : List UInt8} (h : s.length ≤ maxLen) : keyOf Tryz.prog 9 (.string ⟨s.toArray⟩) = some (.string s) := by
  have := WideMaps.keyOf_string_mk (P := Tryz.prog) (k := 9) Tryz.underlying9 (s := ⟨s.toArray⟩) (by simpa [ByteArray.size] using h)
  simpa using this
theorem keyLit {s : List UInt8} (h : s.length ≤ maxLen) : WideAt.IsKeyLit (.string s) := lawS.key (keyS h)
/-- The places of a key. -/
def csOf (hs : List (List UInt8 × Ct)) (k : List UInt8) : List Ct := hs.filterMap fun h => if h.1 = k then some h.2 else none
theorem csOf_append (hs hs' : List (List UInt8 × Ct)) (k : List UInt8) : csOf (hs ++ hs') k = csOf hs k ++ csOf hs' k := by unfold csOf; rw [List.filterMap_append]
theorem csOf_same (k : List UInt8) (ys : List Ct) : csOf (ys.map fun c => (k, c)) k = ys := by
  induction ys with
  | nil => rfl
  | cons y ys ih => unfold csOf at ih ⊢; simp [ih]
theorem csOf_other {k k' : List UInt8} (h : k ≠ k') (ys : List Ct) : csOf (ys.map fun c => (k, c)) k' = [] := by
  induction ys with
  | nil => rfl
  | cons y ys ih => unfold csOf at ih ⊢; simp [h]
theorem mem_csOf (hs : List (List UInt8 × Ct)) (k : List UInt8) (c : Ct) : c ∈ csOf hs k ↔ (k, c) ∈ hs := by
  unfold csOf
  simp only [List.mem_filterMap, Option.ite_none_right_eq_some, Option.some.injEq, Prod.exists]
  constructor
  · rintro ⟨a, b, h, rfl, rfl⟩; exact h
  · intro h; exact ⟨k, c, h, rfl, rfl⟩
def AtK (D : DV) (k : List UInt8) (v : Value) : Prop := ∀ z, D.atKey (.string k) z = .held v
theorem AtK.one {D : DV} {k : List UInt8} {v v' : Value} (h : AtK D k v) (h' : AtK D k v') : v = v' := by
  have := (h .nil).symm.trans (h' .nil)
  injection this
/-- Block b is a map from keys to rows of the places that came with them, each in a block of its own from B on. -/
structure GMap (B b n : Nat) (hs : List (List UInt8 × Ct)) (D : DV) (W : World) : Prop where
  own : W.ownsMap Tryz.prog 9 rV b n D
  lt : b < B
  key : ∀ h ∈ hs, h.1.length ≤ maxLen
  has : ∀ k, has D (.string k) = true ↔ csOf hs k ≠ []
  row : ∀ k, csOf hs k ≠ [] → ∃ v, AtK D k v ∧ kCt.own 69 W B (fun _ => False) v (csOf hs k)
  ap : ∀ k k' v v', k ≠ k' → csOf hs k ≠ [] → csOf hs k' ≠ [] → AtK D k v → AtK D k' v' → ∀ j, v.ownBlock = some j → v'.ownBlock ≠ some j
theorem GMap.made (W : World) : GMap (W.heap.size + 1) W.heap.size 0 [] (.map []) (W.alloc (.map #[] 0)) where
  own := World.ownsMap_made W Tryz.prog 9 rV
  lt := Nat.lt_succ_self _
  key h hh := by cases hh
  has k := by simp [csOf, Maps.has]
  row k h := absurd rfl h
  ap k _ _ _ _ h := absurd rfl h
theorem GMap.keep {B b n : Nat} {hs : List (List UInt8 × Ct)} {D : DV} {W W' : World} (h : GMap B b n hs D W) (hg : W.grownBy W' none) : GMap B b n hs D W' :=
  ⟨h.own.kept hg (by simp), h.lt, h.key, h.has, fun k hk => by
    obtain ⟨v, h1, h2⟩ := h.row k hk
    exact ⟨v, h1, Lay.own_keep h2 hg.size fun j _ hj => hg.block j hj (by simp)⟩, h.ap⟩
theorem GMap.look {B b n : Nat} {hs : List (List UInt8 × Ct)} {D : DV} {W : World} (h : GMap B b n hs D W) {k : List UInt8} (hk : k.length ≤ maxLen) :
    ∃ v, (Instr.lookup 105 (.map (some b)) (.string ⟨k.toArray⟩) false).run Tryz.prog W = .ok v W ∧ kCt.own 69 W B (fun _ => False) v (csOf hs k) ∧
      ∀ k' v', k ≠ k' → csOf hs k' ≠ [] → AtK D k' v' → ∀ j, v.ownBlock = some j → v'.ownBlock ≠ some j := by
  obtain ⟨v, ps, hrun, hv⟩ := h.own.lookup (t := 105) (e := 38) lawS Tryz.underlying105 (z := .slice none 0 0) (Tryz.zeroValue38 W) (zd := .held (.slice none 0 0)) (zp := []) rfl (keyS hk)
  refine ⟨v, hrun, ?_⟩
  have e1 : D.atKey (.string k) (.held (.slice none 0 0)) = .held v := by
    unfold rV at hv; simp only [Option.some.injEq, Prod.mk.injEq] at hv; exact hv.1.symm
  by_cases hc : csOf hs k = []
  · have hf : Maps.has D (.string k) = false := by
      cases h9 : Maps.has D (.string k)
      · rfl
      · exact absurd hc ((h.has k).1 h9)
    rw [atKey_of_not_has hf] at e1
    injection e1 with e1
    subst e1
    rw [hc]
    exact ⟨Lay.own_nil _ _ _ _ _, fun _ _ _ _ _ j hj => by simp [Value.ownBlock] at hj⟩
  · obtain ⟨v2, h2, h3⟩ := h.row k hc
    rw [h2] at e1
    injection e1 with e1
    subst e1
    exact ⟨h3, fun k' v' hne hk' hv' => h.ap k k' v2 v' hne hc hk' h2 hv'⟩
/-- The row v of the key k has been put into another state, or moved: the map with it at k. -/
theorem GMap.store {B b n : Nat} {hs : List (List UInt8 × Ct)} {D : DV} {W W1 : World} (h : GMap B b n hs D W) {k : List UInt8} (hk : k.length ≤ maxLen) (hn : n < maxLen) {v v' : Value} {ys : List Ct} (hy : ys ≠ [])
    (hv : ∀ k' v', k ≠ k' → csOf hs k' ≠ [] → AtK D k' v' → ∀ j, v.ownBlock = some j → v'.ownBlock ≠ some j) (hvB : ∀ j, v.ownBlock = some j → B ≤ j)
    (hs1 : W.heap.size ≤ W1.heap.size) (hk1 : ∀ j, j < W.heap.size → v.ownBlock ≠ some j → W1.heap[j]? = W.heap[j]?)
    (hv' : kCt.own 69 W1 B (fun _ => False) v' (csOf hs k ++ ys)) (hl : ∀ j, v'.ownBlock = some j → v.ownBlock = some j ∨ W.heap.size ≤ j) :
    ∃ W2, (Instr.mapUpdate 105 (.map (some b)) (.string ⟨k.toArray⟩) v').run Tryz.prog W1 = .ok () W2 ∧ GMap B b (n + 1) (hs ++ ys.map fun c => (k, c)) (D.put (.string k) (.held v')) W2 ∧ W1.grownBy W2 (some b) := by
  have hbl := h.own.lt
  have hown1 : W1.ownsMap Tryz.prog 9 rV b n D := by
    obtain ⟨es, clock, hb, F, hsz, hD⟩ := h.own
    refine ⟨es, clock, (hk1 b hbl fun e => ?_).trans hb, F, hsz, hD⟩
    have := hvB b e
    have := h.lt
    omega
  obtain ⟨W2, hrun, hown2, hg⟩ := hown1.update (t := 105) (e := 38) lawS Tryz.underlying105 hn (key := .string ⟨k.toArray⟩) (val := v') (kl := .string k) (d := .held v') (ps := []) (keyS hk) rfl
  have hm : IsMap D := by obtain ⟨es, _, _, _, _, rfl⟩ := h.own; exact ⟨_, rfl⟩
  have hne : ∀ {k' : List UInt8}, k ≠ k' → Lit.string k' ≠ Lit.string k := fun hne e => hne (Lit.string.inj e).symm
  have hcs : ∀ {k' : List UInt8}, k ≠ k' → csOf (hs ++ ys.map fun c => (k, c)) k' = csOf hs k' := fun hne => by rw [csOf_append, csOf_other hne, List.append_nil]
  have hck : csOf (hs ++ ys.map fun c => (k, c)) k = csOf hs k ++ ys := by rw [csOf_append, csOf_same]
  have hput : AtK (D.put (.string k) (.held v')) k v' := fun z => atKey_put_same hm (keyLit hk) _ _
  have hoth : ∀ {k' : List UInt8} {u : Value}, k ≠ k' → (AtK (D.put (.string k) (.held v')) k' u ↔ AtK D k' u) := fun hn' => by
    unfold AtK; simp only [atKey_put_other (hne hn')]
  have hnb : ∀ {u : Value} {cs : List Ct} {X : World}, kCt.own 69 X B (fun _ => False) u cs → ∀ j, u.ownBlock = some j → j ≠ b := fun ho j hj e => by
    have := (Lay.own_lt ho j hj).1; have := h.lt; omega
  refine ⟨W2, hrun, ⟨hown2, h.lt, fun x hx => ?_, fun k' => ?_, fun k' hk' => ?_, fun k1 k2 v1 v2 h12 h1 h2 a1 a2 => ?_⟩, hg⟩
  · rcases List.mem_append.1 hx with hx | hx
    · exact h.key x hx
    · obtain ⟨c, _, rfl⟩ := List.mem_map.1 hx; exact hk
  · by_cases e : k = k'
    · subst e
      rw [has_put_same hm (keyLit hk), hck]
      simp [hy]
    · rw [has_put_other (hne e), hcs e, h.has]
  · by_cases e : k = k'
    · subst e
      refine ⟨v', hput, ?_⟩
      rw [hck]
      exact Lay.own_keep hv' hg.size fun j hj hjl => hg.block j hjl (by
        rcases hj with hj | hj
        · exact hj.elim
        · intro e; injection e with e; exact hnb hv' j hj e)
    · rw [hcs e] at hk' ⊢
      obtain ⟨u, h1, h2⟩ := h.row k' hk'
      refine ⟨u, (hoth e).2 h1, ?_⟩
      have h3 : kCt.own 69 W1 B (fun _ => False) u (csOf hs k') := Lay.own_keep h2 hs1 fun j hj hjl => hk1 j hjl (by
        rcases hj with hj | hj
        · exact hj.elim
        · intro e9; exact hv k' u e hk' h1 j e9 hj)
      exact Lay.own_keep h3 hg.size fun j hj hjl => hg.block j hjl (by
        rcases hj with hj | hj
        · exact hj.elim
        · intro e; injection e with e; exact hnb h3 j hj e)
  · have key : ∀ {k' : List UInt8} {u : Value}, k ≠ k' → csOf hs k' ≠ [] → AtK D k' u → ∀ j, v'.ownBlock = some j → u.ownBlock ≠ some j := fun {k' u} hn' hc ha j hj hu => by
      rcases hl j hj with h9 | h9
      · exact hv k' u hn' hc ha j h9 hu
      · obtain ⟨u2, b1, b2⟩ := h.row k' hc
        rw [AtK.one ha b1] at hu
        have := (Lay.own_lt b2 j hu).2
        omega
    by_cases e1 : k = k1
    · subst e1
      rw [hcs h12] at h2
      rw [hoth h12] at a2
      rw [AtK.one a1 hput]
      exact key h12 h2 a2
    · by_cases e2 : k = k2
      · subst e2
        rw [hcs e1] at h1
        rw [hoth e1] at a1
        rw [AtK.one a2 hput]
        exact fun j hj hu => key e1 h1 a1 j hu hj
      · rw [hcs e1] at h1
        rw [hcs e2] at h2
        exact h.ap k1 k2 v1 v2 h12 h1 h2 ((hoth e1).1 a1) ((hoth e2).1 a2)
end
end Go.Proofs.YtdbnddmncbjobaaGreatDoor
namespace Go.Proofs
open Go.Shelf
def Tryz.lays106u_ren : Go.Shelf.Ren := ⟨fun | 106 => 68 | 213 => 122 | 265 => 147 | n => n, fun | 9 => 9 | 3 => 3 | n => n, fun | n => n⟩
theorem Tryz.lays106u : Go.Proofs.Lays.n106 Tryz.prog Tryz.lays106u_ren := {
  mixed := by kernel_rfl
  f106 := Tryz.func68.trans (congrArg some (by kernel_rfl))
  f213 := Tryz.func122.trans (congrArg some (by kernel_rfl))
  f265 := Tryz.func147.trans (congrArg some (by kernel_rfl))
  t3 := Tryz.underlying3
  a3 := Tryz.isAgg3
  z3 := Tryz.sizeOf3
  v3 := Tryz.zeroValue3
  t9 := Tryz.underlying9
  a9 := Tryz.isAgg9
  z9 := Tryz.sizeOf9
  v9 := Tryz.zeroValue9 }
def Tryz.sortCt_ren : Go.Shelf.Ren := ⟨fun | 6 => 111 | 15 => 141 | 14 => 140 | 28 => 166 | 29 => 167 | 20 => 158 | 21 => 159 | 22 => 160 | 23 => 161 | 24 => 162 | 25 => 163 | 26 => 164 | 27 => 165 | 46 => 201 | 47 => 202 | 48 => 203 | 49 => 204 | 50 => 205 | 57 => 232 | n => n, fun | 22 => 38 | 24 => 69 | 25 => 165 | 3 => 3 | 39 => 174 | 0 => 0 | 53 => 182 | 55 => 214 | 4 => 4 | 46 => 207 | 45 => 206 | 50 => 114 | 5 => 5 | 9 => 9 | 66 => 241 | 70 => 245 | 76 => 269 | 77 => 270 | n => n, fun | n => n⟩
theorem Tryz.sortCt : Go.Proofs.SlLaysF0.n6 Tryz.prog Tryz.sortCt_ren := {
  mixed := by kernel_rfl
  f6 := ⟨Tryz.f111.name, by decide, Tryz.func111.trans (congrArg some (by kernel_rfl))⟩
  f14 := ⟨Tryz.f140.name, by decide, Tryz.func140.trans (congrArg some (by kernel_rfl))⟩
  f15 := Tryz.func141.trans (congrArg some (by kernel_rfl))
  f20 := ⟨Tryz.f158.name, by decide, Tryz.func158.trans (congrArg some (by kernel_rfl))⟩
  f21 := ⟨Tryz.f159.name, by decide, Tryz.func159.trans (congrArg some (by kernel_rfl))⟩
  f22 := ⟨Tryz.f160.name, by decide, Tryz.func160.trans (congrArg some (by kernel_rfl))⟩
  f23 := ⟨Tryz.f161.name, by decide, Tryz.func161.trans (congrArg some (by kernel_rfl))⟩
  f24 := ⟨Tryz.f162.name, by decide, Tryz.func162.trans (congrArg some (by kernel_rfl))⟩
  f25 := ⟨Tryz.f163.name, by decide, Tryz.func163.trans (congrArg some (by kernel_rfl))⟩
  f26 := ⟨Tryz.f164.name, by decide, Tryz.func164.trans (congrArg some (by kernel_rfl))⟩
  f27 := ⟨Tryz.f165.name, by decide, Tryz.func165.trans (congrArg some (by kernel_rfl))⟩
  f28 := Tryz.func166.trans (congrArg some (by kernel_rfl))
  f29 := Tryz.func167.trans (congrArg some (by kernel_rfl))
  f46 := ⟨Tryz.f201.name, by decide, Tryz.func201.trans (congrArg some (by kernel_rfl))⟩
  f47 := Tryz.func202.trans (congrArg some (by kernel_rfl))
  f48 := Tryz.func203.trans (congrArg some (by kernel_rfl))
  f49 := ⟨Tryz.f204.name, by decide, Tryz.func204.trans (congrArg some (by kernel_rfl))⟩
  f50 := ⟨Tryz.f205.name, by decide, Tryz.func205.trans (congrArg some (by kernel_rfl))⟩
  f57 := ⟨Tryz.f232.name, by decide, Tryz.func232.trans (congrArg some (by kernel_rfl))⟩
  t0 := Tryz.underlying0
  a0 := Tryz.isAgg0
  z0 := Tryz.sizeOf0
  v0 := Tryz.zeroValue0
  t3 := Tryz.underlying3
  a3 := Tryz.isAgg3
  z3 := Tryz.sizeOf3
  v3 := Tryz.zeroValue3
  t4 := Tryz.underlying4
  a4 := Tryz.isAgg4
  z4 := Tryz.sizeOf4
  v4 := Tryz.zeroValue4
  t5 := Tryz.underlying5
  a5 := Tryz.isAgg5
  z5 := Tryz.sizeOf5
  v5 := Tryz.zeroValue5
  t9 := Tryz.underlying9
  a9 := Tryz.isAgg9
  z9 := Tryz.sizeOf9
  v9 := Tryz.zeroValue9
  t22 := Tryz.underlying38
  a22 := Tryz.isAgg38
  z22 := Tryz.sizeOf38
  v22 := Tryz.zeroValue38
  t25 := Tryz.underlying165
  a25 := Tryz.isAgg165
  z25 := Tryz.sizeOf165
  v25 := Tryz.zeroValue165
  t39 := Tryz.underlying174
  a39 := Tryz.isAgg174
  z39 := Tryz.sizeOf174
  v39 := Tryz.zeroValue174
  t45 := Tryz.underlying206
  a45 := Tryz.isAgg206
  z45 := Tryz.sizeOf206
  v45 := Tryz.zeroValue206
  t46 := Tryz.underlying207
  a46 := Tryz.isAgg207
  z46 := Tryz.sizeOf207
  v46 := Tryz.zeroValue207
  t50 := Tryz.underlying114
  a50 := Tryz.isAgg114
  z50 := Tryz.sizeOf114
  v50 := Tryz.zeroValue114
  t53 := Tryz.underlying182
  a53 := Tryz.isAgg182
  z53 := Tryz.sizeOf182
  v53 := Tryz.zeroValue182
  t55 := Tryz.underlying214
  a55 := Tryz.isAgg214
  z55 := Tryz.sizeOf214
  v55 := Tryz.zeroValue214
  t66 := Tryz.underlying241
  a66 := Tryz.isAgg241
  z66 := Tryz.sizeOf241
  v66 := Tryz.zeroValue241
  t70 := Tryz.underlying245
  a70 := Tryz.isAgg245
  z70 := Tryz.sizeOf245
  v70 := Tryz.zeroValue245
  t76 := Tryz.underlying269
  a76 := Tryz.isAgg269
  z76 := Tryz.sizeOf269
  v76 := Tryz.zeroValue269
  t77 := Tryz.underlying270
  a77 := Tryz.isAgg270
  z77 := Tryz.sizeOf270
  v77 := Tryz.zeroValue270 }
def Tryz.sortIt_ren : Go.Shelf.Ren := ⟨fun | 6 => 114 | 15 => 141 | 14 => 144 | 28 => 166 | 29 => 167 | 20 => 170 | 21 => 171 | 22 => 172 | 23 => 173 | 24 => 174 | 25 => 175 | 26 => 176 | 27 => 177 | 46 => 206 | 47 => 202 | 48 => 203 | 49 => 207 | 50 => 208 | 57 => 233 | n => n, fun | 22 => 33 | 24 => 99 | 25 => 167 | 3 => 3 | 39 => 174 | 0 => 0 | 53 => 182 | 55 => 214 | 4 => 4 | 46 => 207 | 45 => 206 | 50 => 114 | 5 => 5 | 9 => 9 | 66 => 241 | 70 => 245 | 76 => 269 | 77 => 270 | n => n, fun | n => n⟩
theorem Tryz.sortIt : Go.Proofs.SlLaysF0.n6 Tryz.prog Tryz.sortIt_ren := {
  mixed := by kernel_rfl
  f6 := ⟨Tryz.f114.name, by decide, Tryz.func114.trans (congrArg some (by kernel_rfl))⟩
  f14 := ⟨Tryz.f144.name, by decide, Tryz.func144.trans (congrArg some (by kernel_rfl))⟩
  f15 := Tryz.func141.trans (congrArg some (by kernel_rfl))
  f20 := ⟨Tryz.f170.name, by decide, Tryz.func170.trans (congrArg some (by kernel_rfl))⟩
  f21 := ⟨Tryz.f171.name, by decide, Tryz.func171.trans (congrArg some (by kernel_rfl))⟩
  f22 := ⟨Tryz.f172.name, by decide, Tryz.func172.trans (congrArg some (by kernel_rfl))⟩
  f23 := ⟨Tryz.f173.name, by decide, Tryz.func173.trans (congrArg some (by kernel_rfl))⟩
  f24 := ⟨Tryz.f174.name, by decide, Tryz.func174.trans (congrArg some (by kernel_rfl))⟩
  f25 := ⟨Tryz.f175.name, by decide, Tryz.func175.trans (congrArg some (by kernel_rfl))⟩
  f26 := ⟨Tryz.f176.name, by decide, Tryz.func176.trans (congrArg some (by kernel_rfl))⟩
  f27 := ⟨Tryz.f177.name, by decide, Tryz.func177.trans (congrArg some (by kernel_rfl))⟩
  f28 := Tryz.func166.trans (congrArg some (by kernel_rfl))
  f29 := Tryz.func167.trans (congrArg some (by kernel_rfl))
  f46 := ⟨Tryz.f206.name, by decide, Tryz.func206.trans (congrArg some (by kernel_rfl))⟩
  f47 := Tryz.func202.trans (congrArg some (by kernel_rfl))
  f48 := Tryz.func203.trans (congrArg some (by kernel_rfl))
  f49 := ⟨Tryz.f207.name, by decide, Tryz.func207.trans (congrArg some (by kernel_rfl))⟩
  f50 := ⟨Tryz.f208.name, by decide, Tryz.func208.trans (congrArg some (by kernel_rfl))⟩
  f57 := ⟨Tryz.f233.name, by decide, Tryz.func233.trans (congrArg some (by kernel_rfl))⟩
  t0 := Tryz.underlying0
  a0 := Tryz.isAgg0
  z0 := Tryz.sizeOf0
  v0 := Tryz.zeroValue0
  t3 := Tryz.underlying3
  a3 := Tryz.isAgg3
  z3 := Tryz.sizeOf3
  v3 := Tryz.zeroValue3
  t4 := Tryz.underlying4
  a4 := Tryz.isAgg4
  z4 := Tryz.sizeOf4
  v4 := Tryz.zeroValue4
  t5 := Tryz.underlying5
  a5 := Tryz.isAgg5
  z5 := Tryz.sizeOf5
  v5 := Tryz.zeroValue5
  t9 := Tryz.underlying9
  a9 := Tryz.isAgg9
  z9 := Tryz.sizeOf9
  v9 := Tryz.zeroValue9
  t22 := Tryz.underlying33
  a22 := Tryz.isAgg33
  z22 := Tryz.sizeOf33
  v22 := Tryz.zeroValue33
  t25 := Tryz.underlying167
  a25 := Tryz.isAgg167
  z25 := Tryz.sizeOf167
  v25 := Tryz.zeroValue167
  t39 := Tryz.underlying174
  a39 := Tryz.isAgg174
  z39 := Tryz.sizeOf174
  v39 := Tryz.zeroValue174
  t45 := Tryz.underlying206
  a45 := Tryz.isAgg206
  z45 := Tryz.sizeOf206
  v45 := Tryz.zeroValue206
  t46 := Tryz.underlying207
  a46 := Tryz.isAgg207
  z46 := Tryz.sizeOf207
  v46 := Tryz.zeroValue207
  t50 := Tryz.underlying114
  a50 := Tryz.isAgg114
  z50 := Tryz.sizeOf114
  v50 := Tryz.zeroValue114
  t53 := Tryz.underlying182
  a53 := Tryz.isAgg182
  z53 := Tryz.sizeOf182
  v53 := Tryz.zeroValue182
  t55 := Tryz.underlying214
  a55 := Tryz.isAgg214
  z55 := Tryz.sizeOf214
  v55 := Tryz.zeroValue214
  t66 := Tryz.underlying241
  a66 := Tryz.isAgg241
  z66 := Tryz.sizeOf241
  v66 := Tryz.zeroValue241
  t70 := Tryz.underlying245
  a70 := Tryz.isAgg245
  z70 := Tryz.sizeOf245
  v70 := Tryz.zeroValue245
  t76 := Tryz.underlying269
  a76 := Tryz.isAgg269
  z76 := Tryz.sizeOf269
  v76 := Tryz.zeroValue269
  t77 := Tryz.underlying270
  a77 := Tryz.isAgg270
  z77 := Tryz.sizeOf270
  v77 := Tryz.zeroValue270 }
end Go.Proofs

namespace Go.Proofs.YtdbnddmncbjobaaGreatDoor
section
open Go Go.RowKit Go.Sort
attribute [local go_sem] Oper.semAt_some

def ctCs (c : Ct) : List Value := [.int .i64 c.br, .int .i64 c.nu, .int .i64 c.su, .int .i64 c.li]
/-- An item as it lies: its key and the slice of its places. -/
abbrev ItV := List UInt8 × Option Addr × Nat × Nat
instance : Inhabited Ct := ⟨⟨0, 0, 0, 0⟩⟩
theorem strcmp_any (a b : List UInt8) (w : World) : Calls Tryz.prog 68 #[.string ⟨a.toArray⟩, .string ⟨b.toArray⟩] w fun e w' => e = .returned (.int .i64 (Lib.compareBytes a b)) ∧ w' = w :=
  Any.strings_Compare Tryz.lays106u ⟨a.toArray⟩ ⟨b.toArray⟩ w
set_option maxRecDepth 100000 in
theorem itcmp_any (a b : List UInt8) (u v : Value) (w : World) : Calls Tryz.prog 115 #[.agg #[.string ⟨a.toArray⟩, u], .agg #[.string ⟨b.toArray⟩, v]] w fun e w' => e = .returned (.int .i64 (Lib.compareBytes a b)) ∧ Gr w w' := by
  have HC := Lib.hid (fun W => strcmp_any a b W)
  generalize Lib.compareBytes a b = r at HC ⊢
  have HX := Lib.hid (((Gr.refl w).alloc (.cells #[.string ⟨a.toArray⟩, u] 99)).alloc (.cells #[.string ⟨b.toArray⟩, v] 99))
  go_enter Tryz.func115, Tryz.ntmps115
  go_wp2_with (go_at_call 68; refine (HC.out _).mono ?_; rintro e w9 ⟨rfl, rfl⟩)
  go_ret
  exact ⟨rfl, HX.out⟩
theorem swoCt : SWO (ltOf cCmp) where
  irrefl x := by simp only [ltOf, decide_eq_false_iff_not, cCmp_lt]; exact cLt_irrefl x
  trans x y z h1 h2 := by simp only [ltOf, decide_eq_true_eq, cCmp_lt] at *; exact cLt_trans h1 h2
  ntrans x y z h1 h2 := by
    simp only [ltOf, decide_eq_false_iff_not, cCmp_lt] at *
    intro h3
    by_cases e : x = y
    · subst e; exact h2 h3
    · rcases cLt_tri e with h | h
      · exact h1 h
      · exact h2 (cLt_trans h h3)
theorem swoIt : SWO (ltOf fun x y : ItV => Lib.compareBytes x.1 y.1) where
  irrefl x := by simp only [ltOf, decide_eq_false_iff_not, cmpB_lt]; rw [sLt_irrefl]; simp
  trans x y z h1 h2 := by simp only [ltOf, decide_eq_true_eq, cmpB_lt] at *; exact sLt_trans h1 h2
  ntrans x y z h1 h2 := by
    simp only [ltOf, decide_eq_false_iff_not, cmpB_lt] at *
    intro h3
    by_cases e : x.1 = y.1
    · rw [e] at h3; exact h2 h3
    · rcases sLt_tri e with h | h
      · exact h1 h
      · exact h2 (sLt_trans h h3)
def itCs (x : ItV) : List Value := [.string ⟨x.1.toArray⟩, .slice x.2.1 x.2.2.1 x.2.2.2]
theorem cmpLaysCt (blk off size : Nat) (w : World) : CmpLays Tryz.prog 112 #[] ctCs 4 cCmp blk off size w := fun _ _ _ _ x y => compare_any x y _
theorem cmpLaysIt (blk off size : Nat) (w : World) : CmpLays Tryz.prog 115 #[] itCs 2 (fun x y : ItV => Lib.compareBytes x.1 y.1) blk off size w := fun _ _ _ _ x y => itcmp_any x.1 y.1 _ _ _
theorem sort_ct (blk cap : Nat) (d : Array Ct) (w : World) (hH : HoldsK ctCs 4 w blk 0 d) (hb : blk < w.heap.size) (hs : d.size < 4611686018427387904) :
    Calls Tryz.prog 111 #[.slice (some ⟨blk, 0, none⟩) d.size cap, .func (.func 112) #[] #[]] w fun e w' =>
      e = .returned (.tuple #[]) ∧ ∃ d' n os, PermIn 0 d.size d d' ∧ SortedIn (ltOf cCmp) 0 d.size d' ∧ w' = sortWorldK ctCs 4 w blk 0 n d' os := by
  have eg : ∀ args w, (callFunc 112 args).run Tryz.prog w = .ok (.enter 112 args) w := enters_of Tryz.func112 (by kernel_rfl) rfl
  exact AnyQ.slices_SortFunc Tryz.sortCt 4 Tryz.isAgg69 Tryz.sizeOf69 ctCs (fun _ => rfl) (fun x v hv => by simp [ctCs] at hv; rcases hv with rfl | rfl | rfl | rfl <;> rfl) cCmp swoCt 112 #[] blk 0 cap d w eg (cmpLaysCt blk 0 d.size w) hH hb hs
theorem sort_it (blk cap : Nat) (d : Array ItV) (w : World) (hH : HoldsK itCs 2 w blk 0 d) (hb : blk < w.heap.size) (hs : d.size < 4611686018427387904) :
    Calls Tryz.prog 114 #[.slice (some ⟨blk, 0, none⟩) d.size cap, .func (.func 115) #[] #[]] w fun e w' =>
      e = .returned (.tuple #[]) ∧ ∃ d' n os, PermIn 0 d.size d d' ∧ SortedIn (ltOf fun x y : ItV => Lib.compareBytes x.1 y.1) 0 d.size d' ∧ w' = sortWorldK itCs 2 w blk 0 n d' os := by
  have eg : ∀ args w, (callFunc 115 args).run Tryz.prog w = .ok (.enter 115 args) w := enters_of Tryz.func115 (by kernel_rfl) rfl
  exact AnyQ.slices_SortFunc Tryz.sortIt 2 Tryz.isAgg99 Tryz.sizeOf99 itCs (fun _ => rfl) (fun x v hv => by simp [itCs] at hv; rcases hv with rfl | rfl <;> rfl) (fun x y : ItV => Lib.compareBytes x.1 y.1) swoIt 115 #[] blk 0 cap d w eg (cmpLaysIt blk 0 d.size w) hH hb hs
end
section
open Go Go.RowKit Go.Sort

section
variable {α : Type} [Inhabited α] {enc : α → List Value} {k : Nat}
theorem flatK_list (hk : ∀ x, (enc x).length = k) (d : List α) : (flatK enc k d.toArray).toList = d.flatMap enc := by
  have hl : (d.flatMap enc).length = d.length * k := gcells_len (cf := enc) hk d
  apply List.ext_getElem?
  intro t
  by_cases ht : t < d.length * k
  · have k0 : 0 < k := by
      rcases Nat.eq_zero_or_pos k with h | h
      · subst h; simp at ht
      · exact h
    have hi : t / k < d.length := Nat.div_lt_of_lt_mul (by rw [Nat.mul_comm]; exact ht)
    have hj : t % k < k := Nat.mod_lt _ k0
    have e : t = t / k * k + t % k := by rw [Nat.mul_comm]; exact (Nat.div_add_mod t k).symm
    have h1 := gcells_at (cf := enc) hk d (t / k) _ (List.getElem?_eq_getElem hi) (t % k) hj
    rw [← e] at h1
    have h2 : (flatK enc k d.toArray).toList[t]? = some ((enc d.toArray[t / k]!)[t % k]!) := by
      have hs : t < (flatK enc k d.toArray).size := by simpa using ht
      rw [Array.getElem?_toList, Array.getElem?_eq_getElem hs]
      have := get_flatK enc k d.toArray t (by simpa using ht)
      rw [getElem!_pos _ t hs] at this
      rw [this]
    rw [h2]
    refine Eq.trans ?_ h1.symm
    have e3 : d.toArray[t / k]! = d[t / k] := by rw [getElem!_pos _ _ (by simpa using hi)]; simp
    rw [e3, List.getElem?_eq_getElem (by rw [hk]; exact hj), getElem!_pos _ _ (by rw [hk]; exact hj)]
  · rw [List.getElem?_eq_none (by simpa using ht), List.getElem?_eq_none (by rw [hl]; omega)]
theorem holdsK_block (hk : ∀ x, (enc x).length = k) {w : World} {g : Nat} {cur : Array Value} {e : TypeId} {xs : List α} (hb : w.heap[g]? = some (.cells cur e (0, 0))) (h4 : cur.toList.take (xs.length * k) = xs.flatMap enc) : HoldsK enc k w g 0 xs.toArray := by
  intro j hj
  have hj' : j < xs.length * k := by simpa using hj
  refine ⟨?_, by simp [World.frozen?, hb]⟩
  have h1 : (cur.toList.take (xs.length * k))[j]? = ((flatK enc k xs.toArray).toList)[j]? := by rw [h4, flatK_list hk]
  rw [List.getElem?_take_of_lt hj'] at h1
  simp only [World.cell?, hb, Nat.zero_add]
  simp only [Option.isSome_none, Bool.false_eq_true, if_false]
  rw [← Array.getElem?_toList, h1, Array.getElem?_toList, Array.getElem?_eq_getElem hj, getElem!_pos _ j hj]
  rfl
theorem heap_sortedK {w : World} {g n : Nat} {os : Array Obj} {cur : Array Value} {e : TypeId} {fr : Nat × Nat} (d : Array α) (hb : w.heap[g]? = some (.cells cur e fr)) :
    (sortWorldK enc k w g 0 n d os).heap[g]? = some (.cells (putCells id 0 (flatK enc k d) cur) e fr) := by
  have hg : g < w.heap.size := (Array.getElem?_eq_some_iff.1 hb).1
  unfold sortWorldK putRowK
  rw [heap_grow_old _ _ (by simpa using hg)]
  simp [putRow, mapBlock, Sort.ahead, Array.getElem?_modify, hb, onCells]
theorem grown_sortedK {w : World} {g n : Nat} {os : Array Obj} (d : Array α) : w.grownBy (sortWorldK enc k w g 0 n d os) (some g) := by
  unfold sortWorldK putRowK
  refine ⟨rfl, rfl, rfl, by simp, fun j hj hne => ?_⟩
  rw [heap_grow_old _ _ (by simpa using hj)]
  have : g ≠ j := fun e => hne (by rw [e])
  simp [putRow, mapBlock, Sort.ahead, Array.getElem?_modify, this]
theorem take_putK (hk : ∀ x, (enc x).length = k) (cur : Array Value) (ts : List α) (h : ts.length * k ≤ cur.size) : (putCells id 0 (flatK enc k ts.toArray) cur).toList.take (ts.length * k) = ts.flatMap enc := by
  rw [← flatK_list hk]
  apply List.ext_getElem?
  intro j
  by_cases hj : j < ts.length * k
  · have hs : j < (flatK enc k ts.toArray).size := by simpa using hj
    rw [List.getElem?_take_of_lt hj, Array.getElem?_toList, Array.getElem?_toList, Array.getElem?_eq_getElem hs]
    unfold putCells
    rw [Array.getElem?_mapIdx, Array.getElem?_eq_getElem (by omega : j < cur.size)]
    simp only [Option.map_some, Nat.zero_le, Nat.zero_add, true_and, Nat.sub_zero, id]
    rw [if_pos hs, getElem!_pos _ j hs]
  · rw [List.getElem?_take_eq_none (by omega), List.getElem?_eq_none (by simpa using hj)]
theorem ownsRow_sortedK (hk : ∀ x, (enc x).length = k) {w : World} {base g cap n : Nat} {e : TypeId} {os : Array Obj} {cur : Array Value} {ts : List α} {m : Nat} (hl : ts.length = m) (hbase : base ≤ g) (hb : w.heap[g]? = some (.cells cur e (0, 0)))
    (h1 : m ≤ cap) (h2 : cap ≤ maxLen) (h3 : cur.size = cap * k) :
    (sortWorldK enc k w g 0 n ts.toArray os).ownsRow base e k (.slice (some ⟨g, 0, none⟩) m cap) m (ts.flatMap enc) := by
  subst hl
  refine ⟨gcells_len (cf := enc) hk ts, .inr ⟨g, cap, _, rfl, hbase, heap_sortedK _ hb, h1, h2, by simp [putCells, h3], ?_⟩⟩
  exact take_putK hk cur ts (by rw [h3]; exact Nat.mul_le_mul_right _ h1)
end
/-- A row of plain cells, both ways. -/
theorem ct_cells {W : World} {B : Nat} {P : Nat → Prop} {v : Value} {xs : List Ct} (h : kCt.own 69 W B P v xs) : W.ownsRow B 69 4 v xs.length (xs.flatMap ctCs) := by
  obtain ⟨ds, h1, h2, h3⟩ := h
  have e : gcells ccf ds = xs.flatMap ctCs := by
    have : ∀ (ds : List (Cs kCt.sz)) (xs : List Ct), ds.length = xs.length → (∀ (i : Nat) (d : Cs kCt.sz) (x : Ct), ds[i]? = some d → xs[i]? = some x → ccf d = ctCs x) → gcells ccf ds = xs.flatMap ctCs := by
      intro ds
      induction ds with
      | nil => intro xs hl _; cases xs with
        | nil => rfl
        | cons x xs => simp at hl
      | cons d ds ih => intro xs hl hh; cases xs with
        | nil => simp at hl
        | cons x xs =>
          have h0 := hh 0 d x rfl rfl
          have h1 := ih xs (by simpa using hl) fun i d x hd hx => hh (i + 1) d x (by simpa using hd) (by simpa using hx)
          unfold gcells at h1 ⊢
          rw [List.flatMap_cons, List.flatMap_cons, h0, h1]
    exact this ds xs h2 fun i d x hd hx => kCt_rep.1 (h3 i d x hd hx)
  unfold OL at h1
  rw [h2, e] at h1
  exact h1
theorem ctCs_one (x : Ct) : ∀ u ∈ ctCs x, u.oneCell' = true := fun u hu => by
  simp only [ctCs, List.mem_cons, List.not_mem_nil, or_false] at hu
  rcases hu with rfl | rfl | rfl | rfl <;> rfl
def ctC (x : Ct) : Cs kCt.sz := ⟨ctCs x, show (ctCs x).length = kCt.sz from rfl, ctCs_one x⟩
theorem gcells_ctC (xs : List Ct) : gcells ccf (xs.map ctC) = xs.flatMap ctCs := by
  induction xs with
  | nil => rfl
  | cons x xs ih => unfold gcells at ih ⊢; rw [List.map_cons, List.flatMap_cons, List.flatMap_cons, ih]; rfl
theorem cells_ct {W : World} {B : Nat} {P : Nat → Prop} {v : Value} {xs : List Ct} (h : W.ownsRow B 69 4 v xs.length (xs.flatMap ctCs)) : kCt.own 69 W B P v xs := by
  refine ⟨xs.map ctC, ?_, List.length_map _, fun i d x hd hx => ?_⟩
  · unfold OL
    rw [gcells_ctC, List.length_map]
    exact h
  · rw [List.getElem?_map, hx] at hd
    simp only [Option.map_some, Option.some.injEq] at hd
    subst hd
    exact kCt_rep.2 rfl
end
section
open Go Go.RowKit Go.Sort

section
variable {α : Type} [Inhabited α] {lt : α → α → Bool}
theorem perm_all {d d' : Array α} (h : PermIn 0 d.size d d') : d'.toList.Perm d.toList := by
  obtain ⟨h1, _, h3⟩ := h
  have e1 : d'.extract 0 d.size = d' := by rw [← h1]; exact Array.extract_size
  have e2 : d.extract 0 d.size = d := Array.extract_size
  rwa [e1, e2] at h3
theorem sorted_all {d : Array α} {n : Nat} (hn : n = d.size) (h : SortedIn lt 0 n d) : d.toList.Pairwise fun a b => lt b a = false := by
  subst hn
  rw [List.pairwise_iff_getElem]
  intro i j hi hj hij
  have := h i j (Nat.zero_le _) hij (by simpa using hj)
  rw [getElem!_pos d i (by simpa using hi), getElem!_pos d j (by simpa using hj)] at this
  simpa using this
end
theorem sort_own (w : World) (B : Nat) (v : Value) (xs : List Ct) (h : kCt.own 69 w B (fun _ => False) v xs) (hne : xs ≠ []) (hl : xs.length ≤ 100000000) :
    Calls Tryz.prog 111 #[v, .func (.func 112) #[] #[]] w fun e w' => e = .returned (.tuple #[]) ∧ ∃ ys, ys.Perm xs ∧ (ys.Pairwise fun a b => ¬ CLt b a) ∧ kCt.own 69 w' B (fun _ => False) v ys ∧ w.grownBy w' v.ownBlock := by
  have hc := ct_cells h
  rcases hc.2 with ⟨_, h0⟩ | ⟨g, cap, cur, rfl, hbase, hb, h1, h2, h3, h4⟩
  · exact absurd (List.length_eq_zero_iff.1 h0) hne
  have hk : ∀ x, (ctCs x).length = 4 := fun _ => rfl
  have hg : g < w.heap.size := (Array.getElem?_eq_some_iff.1 hb).1
  have hs := sort_ct g cap xs.toArray w (holdsK_block hk hb h4) hg (by simp; omega)
  rw [List.size_toArray] at hs
  refine hs.mono ?_
  rintro e w' ⟨he, d', n, os, hp, hsr, rfl⟩
  have hsz : d'.size = xs.length := by have := hp.1; simpa using this
  have hp' : d'.toList.Perm xs := by
    have := perm_all (d := xs.toArray) (d' := d') (by simpa using hp)
    simpa using this
  refine ⟨he, d'.toList, hp', ?_, ?_, ?_⟩
  · refine (sorted_all (by rw [hsz]) hsr).imp fun {a b} hab => ?_
    simp only [ltOf, decide_eq_false_iff_not, cCmp_lt] at hab
    exact hab
  · have h9 := ownsRow_sortedK (enc := ctCs) hk (w := w) (base := B) (g := g) (cap := cap) (n := n) (os := os) (ts := d'.toList) (m := xs.length) (by simpa using hsz) hbase hb h1 h2 h3
    have e2 : d'.toList.length = xs.length := by simpa using hsz
    rw [← e2] at h9 ⊢
    exact cells_ct (by simpa using h9)
  · exact grown_sortedK d'
end
end Go.Proofs.YtdbnddmncbjobaaGreatDoor