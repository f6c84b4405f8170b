/- The reference's Merge: walked. -/
import Derived.Test.YtdbnddmncbjobaaGreatDoorQbj
import Derived.Maps.RangeWalk
namespace Go.Proofs.YtdbnddmncbjobaaGreatDoor
section
open Go Go.RowKit
attribute [local go_sem] Oper.semAt_some

/-- The table of hits in memory. -/
abbrev TbH (W : World) (A : Option Addr) (n c : Nat) (hs : List (List UInt8 × Ct)) : Prop := TbV W A n c (tabP hs) hs.length
theorem prs_take {U : Tb} {i : Nat} {x : List UInt8 × List Ct} (h : U[i]? = some x) : prs (U.take (i + 1)) = prs (U.take i) ++ x.2.map fun c => (x.1, c) := by
  rw [List.take_add_one, h, prs_append]
  simp [prs]
theorem prs_take_le (U : Tb) (i : Nat) : (prs (U.take i)).length ≤ (prs U).length := by
  conv => rhs; rw [← List.take_append_drop i U]
  rw [prs_append, List.length_append]; omega
end
section
open Go Go.RowKit Go.Maps Go.Sort
attribute [local go_sem] Oper.semAt_some

theorem items_tab {hs : List (List UInt8 × Ct)} {T : Tb} (h1 : ∀ x ∈ T, csOf hs x.1 ≠ [] ∧ ∃ ys : List Ct, ys.Perm (csOf hs x.1) ∧ (ys.Pairwise fun a b => ¬ CLt b a) ∧ x.2 = dedP ys) (h2 : ∀ k, csOf hs k ≠ [] → ∃ l, (k, l) ∈ T) (h3 : T.Pairwise fun x y => sLt x.1 y.1 = true) : T = tabP hs := by
  have hR : Reg T := by
    refine ⟨h3, fun x hx => ?_, fun x hx => ?_⟩
    · obtain ⟨h4, ys, h5, h6, h7⟩ := h1 x hx
      rw [h7]
      exact ded_ne fun e => h4 (by rw [e] at h5; exact List.Perm.nil_eq h5 ▸ rfl)
    · obtain ⟨h4, ys, h5, h6, h7⟩ := h1 x hx
      rw [h7]; exact ded_rise _ h6
  refine tab_eq hR fun k c => ?_
  rw [← mem_csOf]
  constructor
  · rintro ⟨l, hm, hc⟩
    obtain ⟨h4, ys, h5, h6, h7⟩ := h1 _ hm
    simp only at h7 h5
    rw [h7, ded_mem] at hc
    exact h5.mem_iff.1 hc
  · intro hc
    have hne : csOf hs k ≠ [] := fun e => by rw [e] at hc; cases hc
    obtain ⟨l, hm⟩ := h2 k hne
    obtain ⟨h4, ys, h5, h6, h7⟩ := h1 _ hm
    simp only at h7 h5
    exact ⟨l, hm, by rw [h7, ded_mem]; exact h5.mem_iff.2 hc⟩
theorem key_inv {x : Value} {kl : Lit} (h : keyOf Tryz.prog 9 x = some kl) : ∃ s : List UInt8, x = .string ⟨s.toArray⟩ ∧ kl = .string s ∧ s.length ≤ maxLen := by
  obtain ⟨⟨s⟩, rfl, rfl, hs⟩ := WideMaps.string_of_keyOf Tryz.underlying9 h
  exact ⟨s.toList, by simp, rfl, by simpa [ByteArray.size] using hs⟩
theorem same_str (k s : List UInt8) : (Lit.string k).sameKey (.string s) = decide (k = s) := by
  rw [Bool.eq_iff_iff]; simp [Lit.sameKey]
def itS (x : ItV) : Value := .slice x.2.1 x.2.2.1 x.2.2.2
/-- What holds of the rows of the map all the time. -/
structure ItmG (B b r : Nat) (hs : List (List UInt8 × Ct)) (D : DV) : Prop where
  ap : ∀ k k' v v', k ≠ k' → csOf hs k ≠ [] → csOf hs k' ≠ [] → AtK D k v → AtK D k' v' → ∀ j, v.ownBlock = some j → v'.ownBlock ≠ some j
  lt : ∀ k v, csOf hs k ≠ [] → AtK D k v → ∀ j, v.ownBlock = some j → B ≤ j ∧ j < r
  bB : b < B
  Br : B ≤ r
/-- Between two rounds of the range over the map. -/
structure ItmR (B b r n : Nat) (hs : List (List UInt8 × Ct)) (D : DV) (w : World) (left : Lit → Bool) (cnt : Nat) (out : Value) (its : List ItV) (W : World) : Prop where
  rg : W.ranges Tryz.prog 9 rV b r n D left cnt
  todo : ∀ k v, csOf hs k ≠ [] → left (.string k) = true → AtK D k v → kCt.own 69 W B (fun _ => False) v (csOf hs k)
  own : kIv.own 99 W (r + 1) (fun _ => False) out its
  done : ∀ x ∈ its, csOf hs x.1 ≠ [] ∧ left (.string x.1) = false ∧ (∀ v, AtK D x.1 v → v.ownBlock = (itS x).ownBlock) ∧ (∃ v, AtK D x.1 v) ∧ ∃ ys : List Ct, ys.Perm (csOf hs x.1) ∧ (ys.Pairwise fun a b => ¬ CLt b a) ∧ kCt.own 69 W B (fun _ => False) (itS x) (dedP ys)
  all : ∀ k, csOf hs k ≠ [] → left (.string k) = false → ∃ x ∈ its, x.1 = k
  nd : (its.map (·.1)).Nodup
  bel : Below B w W
theorem ItmR.len {B b r n : Nat} {hs : List (List UInt8 × Ct)} {D : DV} {w : World} {left : Lit → Bool} {cnt : Nat} {out : Value} {its : List ItV} {W : World} (h : ItmR B b r n hs D w left cnt out its W) : its.length ≤ hs.length := by
  have := nodup_sub_len (l := its.map (·.1)) (l' := hs.map (·.1)) h.nd fun k hk => by
    obtain ⟨x, hx, rfl⟩ := List.mem_map.1 hk
    obtain ⟨c, hc⟩ := List.exists_mem_of_ne_nil _ (h.done x hx).1
    exact List.mem_map.2 ⟨(x.1, c), (mem_csOf hs x.1 c).1 hc, rfl⟩
  simpa using this
theorem ItmR.step {B b r n : Nat} {hs : List (List UInt8 × Ct)} {D : DV} {w : World} {left : Lit → Bool} {cnt : Nat} {out : Value} {its : List ItV} {W : World} (G : ItmG B b r hs D) (h : ItmR B b r n hs D w left cnt out its W) (hn : hs.length ≤ 40000000)
    {s : List UInt8} {v : Value} (hsl : left (.string s) = true) (hcs : csOf hs s ≠ []) (hv : AtK D s v) {W1 W3 : World} {cnt1 : Nat} (hrg1 : W1.ranges Tryz.prog 9 rV b r n D (fun z => left z && !z.sameKey (.string s)) cnt1) (g1 : W.grownBy W1 (some r)) (g3 : W1.grownBy W3 v.ownBlock)
    {A : Option Addr} {m c : Nat} (hvb : (Value.slice A m c).ownBlock = v.ownBlock) {ys : List Ct} (hp : ys.Perm (csOf hs s)) (hpw : ys.Pairwise fun a b => ¬ CLt b a) (ho : kCt.own 69 W3 B (fun _ => False) (.slice A m c) (dedP ys)) :
    ∃ A' c' W4, (Builtin.append_ #[33, 33] 33 #[out, .slice (some ⟨W3.heap.size, 0, none⟩) 1 1]).run Tryz.prog (W3.alloc (.cells #[.string ⟨s.toArray⟩, .slice A m c] 99)) = .ok (.slice A' (its.length + 1) c') W4 ∧
      ItmR B b r n hs D w (fun z => left z && !z.sameKey (.string s)) cnt1 (.slice A' (its.length + 1) c') (its ++ [(s, A, m, c)]) W4 := by
  have hlt := G.lt s v hcs hv
  have hol := Lay.own_lt h.own
  have hrW := h.rg.lt
  have hlen := h.len
  have s13 : W.heap.size ≤ W3.heap.size := Nat.le_trans g1.size g3.size
  have k13 : ∀ j, j < W.heap.size → j ≠ r → v.ownBlock ≠ some j → W3.heap[j]? = W.heap[j]? := fun j hj h1 h2 =>
    (g3.block j (Nat.lt_of_lt_of_le hj g1.size) (fun e => h2 e.symm)).trans (g1.block j hj (fun e => h1 (Option.some.inj e)))
  have ho3 : kIv.own 99 W3 (r + 1) (fun _ => False) out its := Lay.own_keep h.own s13 fun j hj hjl => by
    rcases hj with hj | hj
    · exact hj.elim
    · have := hol j hj
      exact k13 j hjl (by omega) fun e => by have := hlt j e; omega
  obtain ⟨A', c', W4, run, o4, b4, k4, s4, n4⟩ := own_app1 (k := kIv) (Pr := Tryz.prog) (t := 33) (e := 99) Tryz.underlying33 info99 rfl (by decide) (by omega) ho3 (by omega) (cs := #[.string ⟨s.toArray⟩, .slice A m c]) (T := 99) (x := (s, A, m, c)) rfl 1 (by omega)
  have k14 : ∀ j, j < W.heap.size → j ≠ r → v.ownBlock ≠ some j → out.ownBlock ≠ some j → W4.heap[j]? = W.heap[j]? := fun j hj h1 h2 h3 => (k4 j (Nat.lt_of_lt_of_le hj s13) h3).trans (k13 j hj h1 h2)
  have g4 : W3.grownBy W4 out.ownBlock := ⟨(b4 0 (by omega)).os, (b4 0 (by omega)).tape, (b4 0 (by omega)).output, s4, fun i hi hne => k4 i hi fun e => hne e.symm⟩
  have hbv : some b ≠ v.ownBlock := fun e => by have := hlt b e.symm; have := G.bB; omega
  have hrv : some r ≠ v.ownBlock := fun e => by have := hlt r e.symm; omega
  have hbo : some b ≠ out.ownBlock := fun e => by have := hol b e.symm; have := G.bB; have := G.Br; omega
  have hro : some r ≠ out.ownBlock := fun e => by have := hol r e.symm; omega
  have keep : ∀ (u : Value) (cs : List Ct) (k' : List UInt8) (v' : Value), kCt.own 69 W B (fun _ => False) u cs → u.ownBlock = v'.ownBlock → csOf hs k' ≠ [] → AtK D k' v' → s ≠ k' → kCt.own 69 W4 B (fun _ => False) u cs := fun u cs k' v' hu e hc ha hne =>
    Lay.own_keep hu (Nat.le_trans s13 s4) fun j hj hjl => by
      rcases hj with hj | hj
      · exact hj.elim
      · rw [e] at hj
        have h5 := G.lt k' v' hc ha j hj
        exact k14 j hjl (by omega) (fun e9 => G.ap s k' v v' hne hcs hc hv ha j e9 hj) fun e9 => by have := hol j e9; omega
  refine ⟨A', c', W4, run, ⟨(hrg1.kept g3 hbv hrv).kept g4 hbo hro, fun k' v' hc hl ha => ?_, o4, fun x hx => ?_, fun k' hc hl => ?_, ?_, ?_⟩⟩
  · simp only [same_str, Bool.and_eq_true, Bool.not_eq_true', decide_eq_false_iff_not] at hl
    exact keep v' _ k' v' (h.todo k' v' hc hl.1 ha) rfl hc ha (fun e => hl.2 e.symm)
  · rcases List.mem_append.1 hx with hx | hx
    · obtain ⟨d1, d2, d3, ⟨v', d4⟩, ys', d5, d6, d7⟩ := h.done x hx
      refine ⟨d1, by simp [d2], d3, ⟨v', d4⟩, ys', d5, d6, keep _ _ x.1 v' d7 (d3 v' d4).symm d1 d4 fun e => ?_⟩
      rw [← e, hsl] at d2; cases d2
    · simp only [List.mem_singleton] at hx
      subst hx
      refine ⟨hcs, by simp [same_str], fun v' hv' => ?_, ⟨v, hv⟩, ys, hp, hpw, ?_⟩
      · rw [AtK.one hv' hv]; exact hvb.symm
      · refine Lay.own_keep (v := .slice A m c) ho s4 fun j hj hjl => ?_
        rcases hj with hj | hj
        · exact hj.elim
        · rw [hvb] at hj
          have := hlt j hj
          exact k4 j hjl fun e9 => by have := hol j e9; omega
  · simp only [same_str, Bool.and_eq_false_iff, Bool.not_eq_false', decide_eq_true_eq] at hl
    by_cases e : k' = s
    · exact ⟨(s, A, m, c), by simp, e.symm⟩
    · obtain ⟨x, hx, hxk⟩ := h.all k' hc (hl.resolve_right e)
      exact ⟨x, List.mem_append_left _ hx, hxk⟩
  · rw [List.map_append, List.nodup_append]
    refine ⟨h.nd, by simp, fun a ha b' hb' e => ?_⟩
    obtain ⟨x, hx, rfl⟩ := List.mem_map.1 ha
    simp only [List.map_cons, List.map_nil, List.mem_singleton] at hb'
    have := (h.done x hx).2.1
    rw [e, hb', hsl] at this
    cases this
  · have b14 := b4 B (by have := G.Br; omega)
    refine ⟨b14.os.trans (g3.os.trans (g1.os.trans h.bel.os)), b14.tape.trans (g3.tape.trans (g1.tape.trans h.bel.tape)), b14.output.trans (g3.output.trans (g1.output.trans h.bel.output)), Nat.le_trans h.bel.size (Nat.le_trans s13 s4), fun j hj => ?_⟩
    have hjW : j < W.heap.size := by have := G.Br; omega
    exact (k14 j hjW (by have := G.Br; omega) (fun e => by have := hlt j e; omega) (fun e => by have := hol j e; have := G.Br; omega)).trans (h.bel.block j hj)
theorem itm_fin {B b r n : Nat} {hs : List (List UInt8 × Ct)} {D : DV} {w : World} {left : Lit → Bool} {cnt : Nat} {out : Value} {its its' : List ItV} {W W5 : World} (G : ItmG B b r hs D) (h : ItmR B b r n hs D w left cnt out its W) (hk : ∀ x ∈ hs, x.1.length ≤ 1000) (hl : ∀ kl, left kl = false)
    (hp : its'.Perm its) (hpw : its'.Pairwise fun a b => sLt b.1 a.1 = false) (ho : kIv.own 99 W5 (r + 1) (fun _ => False) out its') (g5 : W.grownBy W5 out.ownBlock) : ∃ A m c, out = .slice A m c ∧ TbH W5 A m c hs ∧ Below B w W5 := by
  have hol := Lay.own_lt h.own
  have hd : ∀ x ∈ its', csOf hs x.1 ≠ [] ∧ ∃ ys : List Ct, ys.Perm (csOf hs x.1) ∧ (ys.Pairwise fun a b => ¬ CLt b a) ∧ kCt.own 69 W5 B (fun _ => False) (itS x) (dedP ys) ∧ ∀ j, (itS x).ownBlock = some j → j < r := fun x hx => by
    obtain ⟨d1, d2, d3, ⟨v', d4⟩, ys, d5, d6, d7⟩ := h.done x (hp.mem_iff.1 hx)
    have hj : ∀ j, (itS x).ownBlock = some j → j < r := fun j hj => (G.lt x.1 v' d1 d4 j (by rw [d3 v' d4]; exact hj)).2
    refine ⟨d1, ys, d5, d6, Lay.own_keep d7 g5.size fun j hj' hjl => ?_, hj⟩
    rcases hj' with hj' | hj'
    · exact hj'.elim
    · exact g5.block j hjl fun e => by have := hol j e.symm; have := hj j hj'; omega
  have hex : ∀ x : ItV, ∃ ys : List Ct, x ∈ its' → ys.Perm (csOf hs x.1) ∧ (ys.Pairwise fun a b => ¬ CLt b a) ∧ kCt.own 69 W5 B (fun _ => False) (itS x) (dedP ys) := fun x => by
    by_cases hx : x ∈ its'
    · obtain ⟨_, ys, a1, a2, a3, _⟩ := hd x hx
      exact ⟨ys, fun _ => ⟨a1, a2, a3⟩⟩
    · exact ⟨[], fun h9 => absurd h9 hx⟩
  obtain ⟨f, hf⟩ : ∃ f : ItV → List Ct, ∀ x ∈ its', (f x).Perm (csOf hs x.1) ∧ ((f x).Pairwise fun a b => ¬ CLt b a) ∧ kCt.own 69 W5 B (fun _ => False) (itS x) (dedP (f x)) := ⟨fun x => (hex x).choose, fun x hx => (hex x).choose_spec hx⟩
  have hT : its'.map (fun x => (x.1, dedP (f x))) = tabP hs := by
    refine items_tab (fun y hy => ?_) (fun k hc => ?_) ?_
    · obtain ⟨x, hx, rfl⟩ := List.mem_map.1 hy
      exact ⟨(hd x hx).1, f x, (hf x hx).1, (hf x hx).2.1, rfl⟩
    · obtain ⟨x, hx, rfl⟩ := h.all k hc (hl _)
      exact ⟨_, List.mem_map.2 ⟨x, hp.mem_iff.2 hx, rfl⟩⟩
    · rw [List.pairwise_map]
      have hnd : (its'.map (·.1)).Nodup := (hp.map (·.1)).nodup_iff.2 h.nd
      rw [List.nodup_iff_pairwise_ne, List.pairwise_map] at hnd
      exact (hpw.and hnd).imp fun {a b} ⟨h1, h2⟩ => (sLt_tri h2).resolve_right (by rw [h1]; simp)
  have hown : kIt.own 99 W5 (r + 1) (fun j => j < r) out (its'.map fun x => (x.1, dedP (f x))) := by
    obtain ⟨ds, h1, h2, h3⟩ := ho
    refine ⟨ds, h1, by rw [List.length_map]; exact h2, fun i d y hd' hy => ?_⟩
    rw [List.getElem?_map] at hy
    obtain ⟨x, hx, rfl⟩ := Option.map_eq_some_iff.1 hy
    have e : d.1 = itCs x := h3 i d x hd' hx
    have hxm := List.mem_of_getElem? hx
    obtain ⟨_, ys, _, _, _, hj⟩ := hd x hxm
    obtain ⟨k, A, m, c⟩ := x
    have ho9 := (hf _ hxm).2.2
    obtain ⟨A9, c9, e9, hc9, hr9⟩ := Lay.own_row ho9
    obtain ⟨e1, e2, e3⟩ := Value.slice.inj e9
    simp only at e1 e2 e3
    rw [← e1, ← e2] at hr9
    rw [← e2, ← e3] at hc9
    refine kIt_rep.2 ⟨_, _, _, e, hc9, Lay.row_mono hr9 fun j hj' _ => ?_⟩
    rcases hj' with hj' | hj'
    · exact hj'.elim
    · have := hj j hj'
      exact ⟨this, fun e => by have := hol j e; omega⟩
  obtain ⟨A, c, e, hc, hr⟩ := Lay.own_row hown
  rw [hT] at hr
  refine ⟨A, _, c, e, ⟨Lay.row_mono (by rw [← hT] at hr ⊢; exact hr) fun _ _ _ => trivial, hc, reg_tab hs, tab_len hs, fun x hx => ?_⟩, ?_⟩
  · obtain ⟨c, hc⟩ := tab_key hx
    exact hk _ hc
  · refine ⟨g5.os.trans h.bel.os, g5.tape.trans h.bel.tape, g5.output.trans h.bel.output, Nat.le_trans h.bel.size g5.size, fun j hj => (g5.block j (by have := h.rg.lt; have := G.Br; omega) fun e => by have := hol j e.symm; have := G.Br; omega).trans (h.bel.block j hj)⟩
theorem GMap.itmG {B b n : Nat} {hs : List (List UInt8 × Ct)} {D : DV} {W : World} (h : GMap B b n hs D W) (hB : B ≤ W.heap.size) : ItmG B b W.heap.size hs D :=
  ⟨h.ap, fun k v hc ha j hj => by
    obtain ⟨v', h1, h2⟩ := h.row k hc
    rw [AtK.one ha h1] at hj
    exact Lay.own_lt h2 j hj, h.lt, hB⟩
theorem GMap.itmR {B b n : Nat} {hs : List (List UInt8 × Ct)} {D : DV} {w W : World} (h : GMap B b n hs D w) (hB : B ≤ w.heap.size) {cnt : Nat} (hrg : W.ranges Tryz.prog 9 rV b w.heap.size n D (Maps.has D) cnt) (hg : w.grownBy W none) : ItmR B b w.heap.size n hs D w (Maps.has D) cnt (.slice none 0 0) [] W :=
  ⟨hrg, fun k v hc _ ha => by
    obtain ⟨v', h1, h2⟩ := h.row k hc
    rw [AtK.one ha h1]
    exact Lay.own_keep h2 hg.size fun j _ hjl => hg.block j hjl (by simp), Lay.own_nil _ _ _ _ _, fun x hx => (by cases hx), fun k hc hl => (by rw [(h.has k).2 hc] at hl; cases hl), .nil, ⟨hg.os, hg.tape, hg.output, hg.size, fun j hj => hg.block j (by omega) (by simp)⟩⟩
theorem sort_iall (w : World) (B : Nat) (v : Value) (xs : List ItV) (h : kIv.own 99 w B (fun _ => False) v xs) (hl : xs.length ≤ 100000000) :
    Calls Tryz.prog 114 #[v, .func (.func 115) #[] #[]] w fun e w' => e = .returned (.tuple #[]) ∧ ∃ ys, ys.Perm xs ∧ (ys.Pairwise fun a b => sLt b.1 a.1 = false) ∧ kIv.own 99 w' B (fun _ => False) v ys ∧ w.grownBy w' v.ownBlock := by
  by_cases hne : xs = []
  · subst hne
    obtain ⟨A, c, rfl, _, _⟩ := Lay.own_row h
    refine (sort_none A c _ w).mono ?_
    rintro e w' ⟨rfl, rfl⟩
    exact ⟨rfl, [], List.Perm.refl _, .nil, h, ⟨rfl, rfl, rfl, Nat.le_refl _, fun _ _ _ => rfl⟩⟩
  · exact sort_iown w B v xs h hne hl
theorem csOf_len (hs : List (List UInt8 × Ct)) (k : List UInt8) : (csOf hs k).length ≤ hs.length := List.length_filterMap_le _ _
set_option maxHeartbeats 4000000 in
set_option maxRecDepth 100000 in
theorem items_any (w : World) (B b n : Nat) (hs : List (List UInt8 × Ct)) (D : DV) (h : GMap B b n hs D w) (hB : B ≤ w.heap.size) (hn : hs.length ≤ 40000000) (hk : ∀ x ∈ hs, x.1.length ≤ 1000) :
    Calls Tryz.prog 57 #[.map (some b)] w fun e w' => ∃ A m c, e = .returned (.slice A m c) ∧ TbH w' A m c hs ∧ Below B w w' := by
  have HG := Lib.hid (h.itmG hB)
  have HH := Lib.hid h
  have hown := h.own
  clear h
  obtain ⟨r, hr⟩ : ∃ r, w.heap.size = r := ⟨_, rfl⟩
  go_enter Tryz.func57, Tryz.ntmps57
  go_wp2_with (first
    | (at_range; refine wpList_range_own _ rfl _ 105 rfl 9 38 lawS Tryz.underlying105 rV b n _ rfl hown ?_; intro w0 hrg0 hg0 hs0)
    | go_in)
  go_frame
  have HST := Lib.hid (HH.out.itmR hB hrg0 hg0)
  rw [hr] at HG HST hrg0 hs0 ⊢
  clear hrg0 hg0 hs0 hown
  go_loopw [3] (fun s3 wr => ∃ (left : Lit → Bool) (cnt : Nat) (its : List ItV) (out : Value), out = s3 ∧ ItmR B b r n hs D w left cnt out its wr) (fun _ wr => wr.rangeLeft b r)
  case atStart => exact ⟨_, _, [], _, rfl, HST.out⟩
  case round =>
    obtain ⟨left, cnt, its, out, hout, hI⟩ := hrel
    subst hout
    have HI := Lib.hid hI
    have hrg := hI.rg
    clear hI
    go_wp2_with (first
      | (at_next; refine wpList_next_ranges _ rfl _ rfl 9 lawS rV id id (fun key _ _ => ⟨key, rfl⟩) (fun v _ _ => ⟨v, rfl⟩) b r n _ _ _ rfl hrg ?_ ?_)
      | go_in)
    · intro hc0 hl0
      have HS := Lib.hid (sort_iall wr (r + 1) out its HI.out.own (by have := HI.out.len; omega))
      have HL0 := Lib.hid hl0
      clear hl0 hrg
      go_wp2_with (first
        | (go_at_call 114; refine (HS.out).mono ?_; rintro e w5 ⟨rfl, its', hp, hpw, ho5, hg5⟩; have HE := Lib.hid (itm_fin HG.out HI.out hk HL0.out hp hpw ho5 hg5); clear hp hpw ho5 hg5)
        | go_in)
      go_ret
      obtain ⟨A, m, c, e, h1, h2⟩ := HE.out
      exact ⟨A, m, c, by rw [← e]; rfl, h1, h2⟩
    · intro x c kl yd yp w1 cnt1 hkey hlx hv hat hrg1 hlt hg1 hs1 hen
      obtain ⟨s, rfl, rfl, hsl⟩ := key_inv hkey
      have ha : AtK D s c := fun z => by
        rw [hat z]
        unfold rV at hv
        simp only [Option.some.injEq, Prod.mk.injEq] at hv
        exact hv.1.symm
      have hcs : csOf hs s ≠ [] := (HH.out.has s).1 (has_true_of_atKey hat)
      have hlen := csOf_len hs s
      have ho1 : kCt.own 69 w1 B (fun _ => False) c (csOf hs s) := Lay.own_keep (HI.out.todo s c hcs hlx ha) (by omega) fun j hj hjl => by
        rcases hj with hj | hj
        · exact hj.elim
        · have := HG.out.lt s c hcs ha j hj
          exact hg1.block j hjl (fun e => by have := Option.some.inj e; omega)
      have HSO := Lib.hid (sort_own w1 B c (csOf hs s) ho1 hcs (by omega))
      have HSTEP := Lib.hid (fun (W3 : World) (A : Option Addr) (m cc : Nat) (ys : List Ct) g3 hvb hp hpw ho => ItmR.step (W3 := W3) (A := A) (m := m) (c := cc) (ys := ys) HG.out HI.out hn hlx hcs ha hrg1 hg1 g3 hvb hp hpw ho)
      have HLT := Lib.hid hlt
      have HYL := Lib.hid (show ∀ ys : List Ct, ys.Perm (csOf hs s) → ys ≠ [] ∧ ys.length ≤ 100000000 from fun ys hp => ⟨fun e => hcs (by rw [e] at hp; exact List.Perm.nil_eq hp ▸ rfl), by rw [hp.length_eq]; omega⟩)
      clear ho1 hkey hv hat ha hcs hlen hlx hrg hrg1 hlt hg1 hs1

      go_wp2_with (first
        | (go_at_call 111; refine (HSO.out).mono ?_; rintro e w2 ⟨rfl, ys, hp, hpw, ho2, hg2⟩; have HC := Lib.hid (compact_own w2 B c ys ho2 (HYL.out ys hp).1 (HYL.out ys hp).2); have HP := Lib.hid hp; have HPW := Lib.hid hpw; have HG2 := Lib.hid hg2; clear hp hpw ho2 hg2)
        | (go_at_call 113; refine (HC.out).mono ?_; rintro e w3 ⟨v', rfl, hvb, ho3, hg3⟩; obtain ⟨A9, c9, rfl, _, _⟩ := Lay.own_row ho3; obtain ⟨A', c', w4, hrun, hst⟩ := HSTEP.out w3 A9 _ c9 ys (HG2.out.andThen hg3 fun j hj => .inr hj) hvb HP.out HPW.out ho3; have RUN := Lib.hid hrun; have HST4 := Lib.hid hst; clear hvb ho3 hg3 hrun hst)
        | (at_builtin; refine wpList_append_run (s := .tmp 15) (x := .tmp 20) RUN.out rfl rfl rfl rfl rfl ?_)
        | go_in)
      go_roundw
      case rel => exact ⟨_, cnt1, _, _, rfl, HST4.out⟩
      case measure => rw [HST4.out.rg.left_eq, HI.out.rg.left_eq]; exact HLT.out
end
section
open Go Go.RowKit Go.Maps
attribute [local go_sem] Oper.semAt_some

theorem step_mapU {P : Program} {w : World} {ys : Nat → Option Bool} {o : Oper} {a : Act} {K : Act → World → Prop} {Q : Exit → Act → World → Prop} {E : Prop} {t : TypeId} {m k x : Operand} {vm vk vx : Value} {w' : World}
    (hr : (Instr.mapUpdate t vm vk vx).run P w = .ok () w') (hgd : o.guard = none) (ho : o.op = .mapUpdate t m k x) (hm : a.eval m = vm) (hk : a.eval k = vk) (hx : a.eval x = vx)
    (h : K (a.put o.dst undef) w') : if Region.wanted o ys = true then Oper.wp P o a w K Q else E := by
  have hw : Region.wanted o ys = true := by simp [Region.wanted, hgd]
  rw [if_pos hw]
  unfold Oper.wp
  simp [execOp, ho, hm, hk, hx, hr, Result.andThen]
  exact h
theorem GMap.raise {B B' b n : Nat} {D : DV} {W : World} (h : GMap B b n [] D W) (hB : b < B') : GMap B' b n [] D W :=
  ⟨h.own, hB, h.key, h.has, fun _ hk => absurd rfl hk, h.ap⟩
theorem GMap.look2 {B b n : Nat} {hs : List (List UInt8 × Ct)} {D : DV} {W : World} (h : GMap B b n hs D W) {k : List UInt8} (hk : k.length ≤ maxLen) :
    ∃ v, (∀ X : World, X.ownsMap Tryz.prog 9 rV b n D → (Instr.lookup 105 (.map (some b)) (.string ⟨k.toArray⟩) false).run Tryz.prog X = .ok v X) ∧ kCt.own 69 W B (fun _ => False) v (csOf hs k) ∧
      ∀ k' v', k ≠ k' → csOf hs k' ≠ [] → AtK D k' v' → ∀ j, v.ownBlock = some j → v'.ownBlock ≠ some j := by
  obtain ⟨v, hrun, ho, hap⟩ := h.look hk
  refine ⟨v, fun X hX => ?_, ho, hap⟩
  obtain ⟨v1, p1, r1, e1⟩ := h.own.lookup (t := 105) (e := 38) lawS Tryz.underlying105 (z := .slice none 0 0) (Tryz.zeroValue38 W) (zd := .held (.slice none 0 0)) (zp := []) rfl (keyS hk)
  obtain ⟨v2, p2, r2, e2⟩ := hX.lookup (t := 105) (e := 38) lawS Tryz.underlying105 (z := .slice none 0 0) (Tryz.zeroValue38 X) (zd := .held (.slice none 0 0)) (zp := []) rfl (keyS hk)
  rw [hrun] at r1
  obtain rfl : v = v1 := (Result.ok.inj r1).1
  have : v2 = v := by
    unfold rV at e1 e2
    simp only [Option.some.injEq, Prod.mk.injEq] at e1 e2
    have := e2.1.trans e1.1.symm
    injection this
  subst this
  exact r2
theorem own_lenF {W : World} {B : Nat} {v : Value} {xs : List Ct} (h : kCt.own 69 W B (fun _ => False) v xs) (X : World) (hX : W.grownBy X none) : kCt.own 69 X B (fun _ => False) v xs := Lay.own_keep h hX.size fun j _ hjl => hX.block j hjl (by simp)
/-- What an append and a store of places at a key give. -/
structure Pushed (B b n : Nat) (hs : List (List UInt8 × Ct)) (W X : World) (k : List UInt8) (ys : List Ct) (v : Value) (D' : DV) (X2 : World) : Prop where
  gm : GMap B b (n + 1) (hs ++ ys.map fun c => (k, c)) D' X2
  size : X.heap.size ≤ X2.heap.size
  os : X2.os = X.os
  tape : X2.tape = X.tape
  output : X2.output = X.output
  block : ∀ j, j < X.heap.size → (j < B ∨ W.heap.size ≤ j) → j ≠ b → X2.heap[j]? = X.heap[j]?
theorem GMap.push {B b n : Nat} {hs : List (List UInt8 × Ct)} {D : DV} {W : World} (h : GMap B b n hs D W) (hB : B ≤ W.heap.size) {k : List UInt8} (hk : k.length ≤ maxLen) (hn : n < 40000000) (hl : hs.length ≤ 40000000) :
    ∃ v, (∀ X : World, X.ownsMap Tryz.prog 9 rV b n D → (Instr.lookup 105 (.map (some b)) (.string ⟨k.toArray⟩) false).run Tryz.prog X = .ok v X) ∧
      ∀ (X : World) (_ : W.grownBy X none) (P : Nat → Prop) (A : Option Addr) (m c : Nat) (ys : List Ct), kCt.row X P A m ys → ys ≠ [] → ys.length ≤ 40000000 →
        ∃ A' m' c' X1, (Builtin.append_ #[38, 38] 38 #[v, .slice A m c]).run Tryz.prog X = .ok (.slice A' m' c') X1 ∧ X1.ownsMap Tryz.prog 9 rV b n D ∧ X.heap.size ≤ X1.heap.size ∧ (∀ j, j < X.heap.size → (j < B ∨ W.heap.size ≤ j) → j ≠ b → X1.heap[j]? = X.heap[j]?) ∧
          ∃ D' X2, (Instr.mapUpdate 105 (.map (some b)) (.string ⟨k.toArray⟩) (.slice A' m' c')).run Tryz.prog X1 = .ok () X2 ∧ Pushed B b n hs W X k ys v D' X2 := by
  obtain ⟨v, hlook, ho, hap⟩ := h.look2 hk
  refine ⟨v, hlook, fun X hX P A m c ys hr hy hyl => ?_⟩
  have hvl := Lay.own_lt ho
  have hoX := own_lenF ho X hX
  have hlen := csOf_len hs k
  have hrl := Lay.row_len hr
  obtain ⟨ds, e1, e2, e3, e4, e5⟩ := hr
  obtain ⟨A', c', X1, hrun, ho1, hb1, hk1, hs1, hn1⟩ := Lay.own_append (k := kCt) (P := Tryz.prog) (t := 38) (e := 69) Tryz.underlying38 info69 rfl (by decide) (by omega) hoX e3 e2 (fun i d x hd hx => kCt_rep.2 (kCt_rep.1 (e5 i d x hd hx))) c (by omega) (Nat.le_trans hB hX.size)
  have hbW := h.own.lt
  have hmap1 : X1.ownsMap Tryz.prog 9 rV b n D := by
    obtain ⟨es, clock, hb, F, hsz, hD⟩ := h.own
    exact ⟨es, clock, (hk1 b (Nat.lt_of_lt_of_le hbW hX.size) (fun e => by have := (hvl b e).1; have := h.lt; omega)).trans ((hX.block b hbW (by simp)).trans hb), F, hsz, hD⟩
  have kk : ∀ j, j < X.heap.size → (j < B ∨ W.heap.size ≤ j) → X1.heap[j]? = X.heap[j]? := fun j hj hj2 => hk1 j hj fun e => by
    have := hvl j e; omega
  refine ⟨A', _, c', X1, hrun, hmap1, hs1, fun j hj hj2 _ => kk j hj hj2, ?_⟩
  obtain ⟨X2, hrun2, hg2, hgr⟩ := (h.keep hX).store (W1 := X1) hk (by unfold maxLen; omega) (v := v) (v' := .slice A' ((csOf hs k).length + m) c') (ys := ys) hy hap (fun j hj => (hvl j hj).1) hs1 (fun j hj hne => hk1 j hj hne) ho1 (fun j hj => (hn1 j hj).imp id id)
  refine ⟨_, X2, hrun2, hg2, Nat.le_trans hs1 hgr.size, hgr.os.trans (hb1 0 (Nat.zero_le _)).os, hgr.tape.trans (hb1 0 (Nat.zero_le _)).tape, hgr.output.trans (hb1 0 (Nat.zero_le _)).output, fun j hj hj2 hjb => ?_⟩
  exact (hgr.block j (Nat.lt_of_lt_of_le hj hs1) fun e => hjb (Option.some.inj e)).trans (kk j hj hj2)
/-- No row of the map lies in a block of K. -/
def GAv (K : Nat → Prop) (D : DV) (hs : List (List UInt8 × Ct)) : Prop := ∀ k v, csOf hs k ≠ [] → AtK D k v → ∀ j, v.ownBlock = some j → ¬ K j
structure Pushd (B b n : Nat) (hs : List (List UInt8 × Ct)) (D : DV) (X : World) (k : List UInt8) (ys : List Ct) (v : Value) (D' : DV) (X2 : World) : Prop where
  gm : GMap B b (n + 1) (hs ++ ys.map fun c => (k, c)) D' X2
  size : X.heap.size ≤ X2.heap.size
  os : X2.os = X.os
  tape : X2.tape = X.tape
  output : X2.output = X.output
  block : ∀ j, j < X.heap.size → v.ownBlock ≠ some j → j ≠ b → X2.heap[j]? = X.heap[j]?
  av : ∀ K : Nat → Prop, GAv K D hs → (∀ j, K j → j < X.heap.size) → GAv K D' (hs ++ ys.map fun c => (k, c))
theorem GMap.look3 {B b n : Nat} {hs : List (List UInt8 × Ct)} {D : DV} {W : World} (h : GMap B b n hs D W) {k : List UInt8} (hk : k.length ≤ maxLen) :
    ∃ v, (∀ X : World, X.ownsMap Tryz.prog 9 rV b n D → (Instr.lookup 105 (.map (some b)) (.string ⟨k.toArray⟩) false).run Tryz.prog X = .ok v X) ∧ kCt.own 69 W B (fun _ => False) v (csOf hs k) ∧
      (∀ k' v', k ≠ k' → csOf hs k' ≠ [] → AtK D k' v' → ∀ j, v.ownBlock = some j → v'.ownBlock ≠ some j) ∧ (v = .slice none 0 0 ∨ (csOf hs k ≠ [] ∧ AtK D k v)) := by
  obtain ⟨v, hlook, ho, hap⟩ := h.look2 hk
  refine ⟨v, hlook, ho, hap, ?_⟩
  obtain ⟨v1, p1, r1, e1⟩ := h.own.lookup (t := 105) (e := 38) lawS Tryz.underlying105 (z := .slice none 0 0) (Tryz.zeroValue38 W) (zd := .held (.slice none 0 0)) (zp := []) rfl (keyS hk)
  obtain rfl : v = v1 := (Result.ok.inj ((hlook W h.own).symm.trans r1)).1
  have e2 : D.atKey (.string k) (.held (.slice none 0 0)) = .held v := by
    unfold rV at e1; simp only [Option.some.injEq, Prod.mk.injEq] at e1; exact e1.1.symm
  by_cases hc : csOf hs k = []
  · left
    have hf : Maps.has D (.string k) = false := by
      cases h9 : Maps.has D (.string k)
      · rfl
      · exact absurd hc ((h.has k).1 h9)
    rw [atKey_of_not_has hf] at e2
    exact (DataW.held.inj e2).symm
  · right
    obtain ⟨v2, h2, h3⟩ := h.row k hc
    rw [h2] at e2
    obtain rfl : v2 = v := DataW.held.inj e2
    exact ⟨hc, h2⟩
theorem GMap.push2 {B b n : Nat} {hs : List (List UInt8 × Ct)} {D : DV} {W : World} (h : GMap B b n hs D W) (hB : B ≤ W.heap.size) {k : List UInt8} (hk : k.length ≤ maxLen) (hn : n < 40000000) (hl : hs.length ≤ 40000000) :
    ∃ v, (∀ X : World, X.ownsMap Tryz.prog 9 rV b n D → (Instr.lookup 105 (.map (some b)) (.string ⟨k.toArray⟩) false).run Tryz.prog X = .ok v X) ∧ (∀ K : Nat → Prop, GAv K D hs → ∀ j, v.ownBlock = some j → ¬ K j) ∧ (∀ j, v.ownBlock = some j → j < W.heap.size) ∧
      ∀ (X : World) (_ : W.grownBy X none) (P : Nat → Prop) (A : Option Addr) (m c : Nat) (ys : List Ct), kCt.row X P A m ys → ys ≠ [] → ys.length ≤ 10000000 →
        ∃ A' m' c' X1, (Builtin.append_ #[38, 38] 38 #[v, .slice A m c]).run Tryz.prog X = .ok (.slice A' m' c') X1 ∧ X1.ownsMap Tryz.prog 9 rV b n D ∧ (∀ j, j < X.heap.size → v.ownBlock ≠ some j → X1.heap[j]? = X.heap[j]?) ∧
          ∃ D' X2, (Instr.mapUpdate 105 (.map (some b)) (.string ⟨k.toArray⟩) (.slice A' m' c')).run Tryz.prog X1 = .ok () X2 ∧ Pushd B b n hs D X k ys v D' X2 := by
  obtain ⟨v, hlook, ho, hap, hvc⟩ := h.look3 hk
  have hvl := Lay.own_lt ho
  have hvK : ∀ K : Nat → Prop, GAv K D hs → ∀ j, v.ownBlock = some j → ¬ K j := fun K hK j hj => by
    rcases hvc with rfl | ⟨hc, ha⟩
    · simp [Value.ownBlock] at hj
    · exact hK k v hc ha j hj
  refine ⟨v, hlook, hvK, fun j hj => (hvl j hj).2, fun X hX P A m c ys hr hy hyl => ?_⟩
  have hoX := own_lenF ho X hX
  have hlen := csOf_len hs k
  have hrl := Lay.row_len hr
  obtain ⟨ds, e1, e2, e3, e4, e5⟩ := hr
  obtain ⟨A', c', X1, hrun, ho1, hb1, hk1, hs1, hn1⟩ := Lay.own_append (k := kCt) (P := Tryz.prog) (t := 38) (e := 69) Tryz.underlying38 info69 rfl (by decide) (by omega) hoX e3 e2 (fun i d x hd hx => kCt_rep.2 (kCt_rep.1 (e5 i d x hd hx))) c (by omega) (Nat.le_trans hB hX.size)
  have hbW := h.own.lt
  have hmap1 : X1.ownsMap Tryz.prog 9 rV b n D := by
    obtain ⟨es, clock, hb, F, hsz, hD⟩ := h.own
    exact ⟨es, clock, (hk1 b (Nat.lt_of_lt_of_le hbW hX.size) (fun e => by have := (hvl b e).1; have := h.lt; omega)).trans ((hX.block b hbW (by simp)).trans hb), F, hsz, hD⟩
  refine ⟨A', _, c', X1, hrun, hmap1, hk1, ?_⟩
  obtain ⟨X2, hrun2, hg2, hgr⟩ := (h.keep hX).store (W1 := X1) hk (by unfold maxLen; omega) (v := v) (v' := .slice A' ((csOf hs k).length + m) c') (ys := ys) hy hap (fun j hj => (hvl j hj).1) hs1 (fun j hj hne => hk1 j hj hne) ho1 (fun j hj => (hn1 j hj).imp id id)
  refine ⟨_, X2, hrun2, hg2, Nat.le_trans hs1 hgr.size, hgr.os.trans (hb1 0 (Nat.zero_le _)).os, hgr.tape.trans (hb1 0 (Nat.zero_le _)).tape, hgr.output.trans (hb1 0 (Nat.zero_le _)).output, fun j hj hj2 hjb => ?_, fun K hK hKl k' u hc ha j hj hKj => ?_⟩
  · exact (hgr.block j (Nat.lt_of_lt_of_le hj hs1) fun e => hjb (Option.some.inj e)).trans (hk1 j hj hj2)
  · have hm : IsMap D := by obtain ⟨es, _, _, _, _, rfl⟩ := h.own; exact ⟨_, rfl⟩
    by_cases e : k = k'
    · subst e
      have hput : AtK (D.put (.string k) (.held (.slice A' ((csOf hs k).length + m) c'))) k (.slice A' ((csOf hs k).length + m) c') := fun z => atKey_put_same hm (keyLit hk) _ _
      rw [AtK.one ha hput] at hj
      rcases hn1 j hj with h9 | h9
      · exact hvK K hK j h9 hKj
      · have := hKl j hKj; omega
    · have hne : Lit.string k' ≠ Lit.string k := fun e9 => e (Lit.string.inj e9).symm
      have ha' : AtK D k' u := fun z => by have := ha z; rwa [atKey_put_other hne] at this
      rw [csOf_append, csOf_other e, List.append_nil] at hc
      exact hK k' u hc ha' j hj hKj
/-- What is kept while the map grows: the blocks of K, which no row of the map lies in. -/
structure Kpt (b : Nat) (K : Nat → Prop) (hs : List (List UInt8 × Ct)) (D : DV) (W0 W : World) : Prop where
  os : W.os = W0.os
  tape : W.tape = W0.tape
  output : W.output = W0.output
  size : W0.heap.size ≤ W.heap.size
  av : GAv K D hs
  nb : ¬ K b
  lt : ∀ j, K j → j < W0.heap.size
  block : ∀ j, K j → W.heap[j]? = W0.heap[j]?
theorem Kpt.start {b : Nat} {K : Nat → Prop} {hs : List (List UInt8 × Ct)} {D : DV} {W : World} (av : GAv K D hs) (nb : ¬ K b) (lt : ∀ j, K j → j < W.heap.size) : Kpt b K hs D W W := ⟨rfl, rfl, rfl, Nat.le_refl _, av, nb, lt, fun _ _ => rfl⟩
theorem Kpt.ext {b : Nat} {K : Nat → Prop} {hs : List (List UInt8 × Ct)} {D : DV} {W0 W Y : World} (h : Kpt b K hs D W0 W) (os : Y.os = W.os) (tape : Y.tape = W.tape) (output : Y.output = W.output) (size : W.heap.size ≤ Y.heap.size) (blk : ∀ j, j < W.heap.size → Y.heap[j]? = W.heap[j]?) : Kpt b K hs D W0 Y :=
  ⟨os.trans h.os, tape.trans h.tape, output.trans h.output, Nat.le_trans h.size size, h.av, h.nb, h.lt, fun j hj => (blk j (Nat.lt_of_lt_of_le (h.lt j hj) h.size)).trans (h.block j hj)⟩
theorem Kpt.push {B b n : Nat} {K : Nat → Prop} {hs : List (List UInt8 × Ct)} {D D' : DV} {W0 X X2 : World} {k : List UInt8} {ys : List Ct} {v : Value} (h : Kpt b K hs D W0 X) (hv : ∀ K : Nat → Prop, GAv K D hs → ∀ j, v.ownBlock = some j → ¬ K j) (hp : Pushd B b n hs D X k ys v D' X2) : Kpt b K (hs ++ ys.map fun c => (k, c)) D' W0 X2 :=
  have hl : ∀ j, K j → j < X.heap.size := fun j hj => Nat.lt_of_lt_of_le (h.lt j hj) h.size
  ⟨hp.os.trans h.os, hp.tape.trans h.tape, hp.output.trans h.output, Nat.le_trans h.size hp.size, hp.av K h.av hl, h.nb, h.lt, fun j hj => (hp.block j (hl j hj) (fun e => hv K h.av j e hj) (fun e => h.nb (e ▸ hj))).trans (h.block j hj)⟩
/-- Blocks that have been made since are kept besides. -/
theorem Kpt.widen {B b n : Nat} {K : Nat → Prop} {hs : List (List UInt8 × Ct)} {D : DV} {W0 W Y : World} (h : Kpt b K hs D W0 W) (hg : GMap B b n hs D W) (size : W.heap.size ≤ Y.heap.size) : Kpt b (fun j => K j ∨ (W.heap.size ≤ j ∧ j < Y.heap.size)) hs D Y Y :=
  Kpt.start (fun k v hc ha j hj hKj => by
    rcases hKj with hKj | hKj
    · exact h.av k v hc ha j hj hKj
    · obtain ⟨v', h1, h2⟩ := hg.row k hc
      rw [AtK.one ha h1] at hj
      have := (Lay.own_lt h2 j hj).2
      omega) (fun hb => hb.elim h.nb fun hb => by have := hg.own.lt; omega) fun j hj => hj.elim (fun hj => Nat.lt_of_lt_of_le (h.lt j hj) (Nat.le_trans h.size size)) (·.2)
theorem Kpt.narrow {b : Nat} {K K' : Nat → Prop} {hs hs' : List (List UInt8 × Ct)} {D D' : DV} {W0 W Y Z : World} (h : Kpt b K hs D W0 W) (os : Y.os = W.os) (tape : Y.tape = W.tape) (output : Y.output = W.output) (size : W.heap.size ≤ Y.heap.size) (blk : ∀ j, j < W.heap.size → Y.heap[j]? = W.heap[j]?)
    (h' : Kpt b K' hs' D' Y Z) (hK : ∀ j, K j → K' j) : Kpt b K hs' D' W0 Z :=
  have h1 := h.ext os tape output size blk
  ⟨h'.os.trans h1.os, h'.tape.trans h1.tape, h'.output.trans h1.output, Nat.le_trans h1.size h'.size, fun k v hc ha j hj hKj => h'.av k v hc ha j hj (hK j hKj), h.nb, h.lt, fun j hj => (h'.block j (hK j hj)).trans (h1.block j hj)⟩
end
end Go.Proofs.YtdbnddmncbjobaaGreatDoor