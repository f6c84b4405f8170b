/- The items of a map of rows: walked. -/
import Derived.Test.YtdbnddmncbjobaaGreatDoorMi
import Derived.Maps.RangeWalk
import Derived.Test.YtdbnddmncbjobaaGreatDoorMd
import Derived.Test.YtdbnddmncbjobaaGreatDoorMh
import Derived.Test.YtdbnddmncbjobaaGreatDoorMf
import Derived.Test.YtdbnddmncbjobaaGreatDoorMe
import Derived.Test.YtdbnddmncbjobaaGreatDoorMg
namespace Go.Proofs.YtdbnddmncbjobaaGreatDoor
open Go Go.RowKit Go.Maps Go.Sort
attribute [local go_sem] Oper.semAt_some

theorem items_tab {hs : List (List UInt8 × Ct)} {T : Tb} (h1 : ∀ x ∈ T, csOf hs x.1 ≠ [] ∧ ∃ ys : List Ct, ys.Perm (csOf hs x.1) ∧ (ys.Pairwise fun a b => ¬ CLt b a) ∧ x.2 = dedP ys) (h2 : ∀ k, csOf hs k ≠ [] → ∃ l, (k, l) ∈ T) (h3 : T.Pairwise fun x y => sLt x.1 y.1 = true) : T = tabP hs := by
  have hR : Reg T := by
    refine ⟨h3, fun x hx => ?_, fun x hx => ?_⟩
    · obtain ⟨h4, ys, h5, h6, h7⟩ := h1 x hx
      rw [h7]
      exact ded_ne fun e => h4 (by rw [e] at h5; exact List.Perm.nil_eq h5 ▸ rfl)
    · obtain ⟨h4, ys, h5, h6, h7⟩ := h1 x hx
      rw [h7]; exact ded_rise _ h6
  refine tab_eq hR fun k c => ?_
  rw [← mem_csOf]
  constructor
  · rintro ⟨l, hm, hc⟩
    obtain ⟨h4, ys, h5, h6, h7⟩ := h1 _ hm
    simp only at h7 h5
    rw [h7, ded_mem] at hc
    exact h5.mem_iff.1 hc
  · intro hc
    have hne : csOf hs k ≠ [] := fun e => by rw [e] at hc; cases hc
    obtain ⟨l, hm⟩ := h2 k hne
    obtain ⟨h4, ys, h5, h6, h7⟩ := h1 _ hm
    simp only at h7 h5
    exact ⟨l, hm, by rw [h7, ded_mem]; exact h5.mem_iff.2 hc⟩
theorem key_inv {x : Value} {kl : Lit} (h : keyOf Tryz.prog 9 x = some kl) : ∃ s : List UInt8, x = .string ⟨s.toArray⟩ ∧ kl = .string s ∧ s.length ≤ maxLen := by
  obtain ⟨⟨s⟩, rfl, rfl, hs⟩ := WideMaps.string_of_keyOf Tryz.underlying9 h
  exact ⟨s.toList, by simp, rfl, by simpa [ByteArray.size] using hs⟩
theorem same_str (k s : List UInt8) : (Lit.string k).sameKey (.string s) = decide (k = s) := by
  rw [Bool.eq_iff_iff]; simp [Lit.sameKey]
def itS (x : ItV) : Value := .slice x.2.1 x.2.2.1 x.2.2.2
/-- What holds of the rows of the map all the time. -/
structure ItmG (B b r : Nat) (hs : List (List UInt8 × Ct)) (D : DV) : Prop where
  ap : ∀ k k' v v', k ≠ k' → csOf hs k ≠ [] → csOf hs k' ≠ [] → AtK D k v → AtK D k' v' → ∀ j, v.ownBlock = some j → v'.ownBlock ≠ some j
  lt : ∀ k v, csOf hs k ≠ [] → AtK D k v → ∀ j, v.ownBlock = some j → B ≤ j ∧ j < r
  bB : b < B
  Br : B ≤ r
/-- Between two rounds of the range over the map. -/
structure ItmR (B b r n : Nat) (hs : List (List UInt8 × Ct)) (D : DV) (w : World) (left : Lit → Bool) (cnt : Nat) (out : Value) (its : List ItV) (W : World) : Prop where
  rg : W.ranges Tryz.prog 9 rV b r n D left cnt
  todo : ∀ k v, csOf hs k ≠ [] → left (.string k) = true → AtK D k v → kCt.own 69 W B (fun _ => False) v (csOf hs k)
  own : kIv.own 99 W (r + 1) (fun _ => False) out its
  done : ∀ x ∈ its, csOf hs x.1 ≠ [] ∧ left (.string x.1) = false ∧ (∀ v, AtK D x.1 v → v.ownBlock = (itS x).ownBlock) ∧ (∃ v, AtK D x.1 v) ∧ ∃ ys : List Ct, ys.Perm (csOf hs x.1) ∧ (ys.Pairwise fun a b => ¬ CLt b a) ∧ kCt.own 69 W B (fun _ => False) (itS x) (dedP ys)
  all : ∀ k, csOf hs k ≠ [] → left (.string k) = false → ∃ x ∈ its, x.1 = k
  nd : (its.map (·.1)).Nodup
  bel : Below B w W
theorem ItmR.len {B b r n : Nat} {hs : List (List UInt8 × Ct)} {D : DV} {w : World} {left : Lit → Bool} {cnt : Nat} {out : Value} {its : List ItV} {W : World} (h : ItmR B b r n hs D w left cnt out its W) : its.length ≤ hs.length := by
  have := nodup_sub_len (l := its.map (·.1)) (l' := hs.map (·.1)) h.nd fun k hk => by
    obtain ⟨x, hx, rfl⟩ := List.mem_map.1 hk
    obtain ⟨c, hc⟩ := List.exists_mem_of_ne_nil _ (h.done x hx).1
    exact List.mem_map.2 ⟨(x.1, c), (mem_csOf hs x.1 c).1 hc, rfl⟩
  simpa using this
theorem ItmR.step {B b r n : Nat} {hs : List (List UInt8 × Ct)} {D : DV} {w : World} {left : Lit → Bool} {cnt : Nat} {out : Value} {its : List ItV} {W : World} (G : ItmG B b r hs D) (h : ItmR B b r n hs D w left cnt out its W) (hn : hs.length ≤ 40000000)
    {s : List UInt8} {v : Value} (hsl : left (.string s) = true) (hcs : csOf hs s ≠ []) (hv : AtK D s v) {W1 W3 : World} {cnt1 : Nat} (hrg1 : W1.ranges Tryz.prog 9 rV b r n D (fun z => left z && !z.sameKey (.string s)) cnt1) (g1 : W.grownBy W1 (some r)) (g3 : W1.grownBy W3 v.ownBlock)
    {A : Option Addr} {m c : Nat} (hvb : (Value.slice A m c).ownBlock = v.ownBlock) {ys : List Ct} (hp : ys.Perm (csOf hs s)) (hpw : ys.Pairwise fun a b => ¬ CLt b a) (ho : kCt.own 69 W3 B (fun _ => False) (.slice A m c) (dedP ys)) :
    ∃ A' c' W4, (Builtin.append_ #[33, 33] 33 #[out, .slice (some ⟨W3.heap.size, 0, none⟩) 1 1]).run Tryz.prog (W3.alloc (.cells #[.string ⟨s.toArray⟩, .slice A m c] 99)) = .ok (.slice A' (its.length + 1) c') W4 ∧
      ItmR B b r n hs D w (fun z => left z && !z.sameKey (.string s)) cnt1 (.slice A' (its.length + 1) c') (its ++ [(s, A, m, c)]) W4 := by
  have hlt := G.lt s v hcs hv
  have hol := Lay.own_lt h.own
  have hrW := h.rg.lt
  have hlen := h.len
  have s13 : W.heap.size ≤ W3.heap.size := Nat.le_trans g1.size g3.size
  have k13 : ∀ j, j < W.heap.size → j ≠ r → v.ownBlock ≠ some j → W3.heap[j]? = W.heap[j]? := fun j hj h1 h2 =>
    (g3.block j (Nat.lt_of_lt_of_le hj g1.size) (fun e => h2 e.symm)).trans (g1.block j hj (fun e => h1 (Option.some.inj e)))
  have ho3 : kIv.own 99 W3 (r + 1) (fun _ => False) out its := Lay.own_keep h.own s13 fun j hj hjl => by
    rcases hj with hj | hj
    · exact hj.elim
    · have := hol j hj
      exact k13 j hjl (by omega) fun e => by have := hlt j e; omega
  obtain ⟨A', c', W4, run, o4, b4, k4, s4, n4⟩ := own_app1 (k := kIv) (Pr := Tryz.prog) (t := 33) (e := 99) Tryz.underlying33 info99 rfl (by decide) (by omega) ho3 (by omega) (cs := #[.string ⟨s.toArray⟩, .slice A m c]) (T := 99) (x := (s, A, m, c)) rfl 1 (by omega)
  have k14 : ∀ j, j < W.heap.size → j ≠ r → v.ownBlock ≠ some j → out.ownBlock ≠ some j → W4.heap[j]? = W.heap[j]? := fun j hj h1 h2 h3 => (k4 j (Nat.lt_of_lt_of_le hj s13) h3).trans (k13 j hj h1 h2)
  have g4 : W3.grownBy W4 out.ownBlock := ⟨(b4 0 (by omega)).os, (b4 0 (by omega)).tape, (b4 0 (by omega)).output, s4, fun i hi hne => k4 i hi fun e => hne e.symm⟩
  have hbv : some b ≠ v.ownBlock := fun e => by have := hlt b e.symm; have := G.bB; omega
  have hrv : some r ≠ v.ownBlock := fun e => by have := hlt r e.symm; omega
  have hbo : some b ≠ out.ownBlock := fun e => by have := hol b e.symm; have := G.bB; have := G.Br; omega
  have hro : some r ≠ out.ownBlock := fun e => by have := hol r e.symm; omega
  have keep : ∀ (u : Value) (cs : List Ct) (k' : List UInt8) (v' : Value), kCt.own 69 W B (fun _ => False) u cs → u.ownBlock = v'.ownBlock → csOf hs k' ≠ [] → AtK D k' v' → s ≠ k' → kCt.own 69 W4 B (fun _ => False) u cs := fun u cs k' v' hu e hc ha hne =>
    Lay.own_keep hu (Nat.le_trans s13 s4) fun j hj hjl => by
      rcases hj with hj | hj
      · exact hj.elim
      · rw [e] at hj
        have h5 := G.lt k' v' hc ha j hj
        exact k14 j hjl (by omega) (fun e9 => G.ap s k' v v' hne hcs hc hv ha j e9 hj) fun e9 => by have := hol j e9; omega
  refine ⟨A', c', W4, run, ⟨(hrg1.kept g3 hbv hrv).kept g4 hbo hro, fun k' v' hc hl ha => ?_, o4, fun x hx => ?_, fun k' hc hl => ?_, ?_, ?_⟩⟩
  · simp only [same_str, Bool.and_eq_true, Bool.not_eq_true', decide_eq_false_iff_not] at hl
    exact keep v' _ k' v' (h.todo k' v' hc hl.1 ha) rfl hc ha (fun e => hl.2 e.symm)
  · rcases List.mem_append.1 hx with hx | hx
    · obtain ⟨d1, d2, d3, ⟨v', d4⟩, ys', d5, d6, d7⟩ := h.done x hx
      refine ⟨d1, by simp [d2], d3, ⟨v', d4⟩, ys', d5, d6, keep _ _ x.1 v' d7 (d3 v' d4).symm d1 d4 fun e => ?_⟩
      rw [← e, hsl] at d2; cases d2
    · simp only [List.mem_singleton] at hx
      subst hx
      refine ⟨hcs, by simp [same_str], fun v' hv' => ?_, ⟨v, hv⟩, ys, hp, hpw, ?_⟩
      · rw [AtK.one hv' hv]; exact hvb.symm
      · refine Lay.own_keep (v := .slice A m c) ho s4 fun j hj hjl => ?_
        rcases hj with hj | hj
        · exact hj.elim
        · rw [hvb] at hj
          have := hlt j hj
          exact k4 j hjl fun e9 => by have := hol j e9; omega
  · simp only [same_str, Bool.and_eq_false_iff, Bool.not_eq_false', decide_eq_true_eq] at hl
    by_cases e : k' = s
    · exact ⟨(s, A, m, c), by simp, e.symm⟩
    · obtain ⟨x, hx, hxk⟩ := h.all k' hc (hl.resolve_right e)
      exact ⟨x, List.mem_append_left _ hx, hxk⟩
  · rw [List.map_append, List.nodup_append]
    refine ⟨h.nd, by simp, fun a ha b' hb' e => ?_⟩
    obtain ⟨x, hx, rfl⟩ := List.mem_map.1 ha
    simp only [List.map_cons, List.map_nil, List.mem_singleton] at hb'
    have := (h.done x hx).2.1
    rw [e, hb', hsl] at this
    cases this
  · have b14 := b4 B (by have := G.Br; omega)
    refine ⟨b14.os.trans (g3.os.trans (g1.os.trans h.bel.os)), b14.tape.trans (g3.tape.trans (g1.tape.trans h.bel.tape)), b14.output.trans (g3.output.trans (g1.output.trans h.bel.output)), Nat.le_trans h.bel.size (Nat.le_trans s13 s4), fun j hj => ?_⟩
    have hjW : j < W.heap.size := by have := G.Br; omega
    exact (k14 j hjW (by have := G.Br; omega) (fun e => by have := hlt j e; omega) (fun e => by have := hol j e; have := G.Br; omega)).trans (h.bel.block j hj)
theorem itm_fin {B b r n : Nat} {hs : List (List UInt8 × Ct)} {D : DV} {w : World} {left : Lit → Bool} {cnt : Nat} {out : Value} {its its' : List ItV} {W W5 : World} (G : ItmG B b r hs D) (h : ItmR B b r n hs D w left cnt out its W) (hk : ∀ x ∈ hs, x.1.length ≤ 1000) (hl : ∀ kl, left kl = false)
    (hp : its'.Perm its) (hpw : its'.Pairwise fun a b => sLt b.1 a.1 = false) (ho : kIv.own 99 W5 (r + 1) (fun _ => False) out its') (g5 : W.grownBy W5 out.ownBlock) : ∃ A m c, out = .slice A m c ∧ TbH W5 A m c hs ∧ Below B w W5 := by
  have hol := Lay.own_lt h.own
  have hd : ∀ x ∈ its', csOf hs x.1 ≠ [] ∧ ∃ ys : List Ct, ys.Perm (csOf hs x.1) ∧ (ys.Pairwise fun a b => ¬ CLt b a) ∧ kCt.own 69 W5 B (fun _ => False) (itS x) (dedP ys) ∧ ∀ j, (itS x).ownBlock = some j → j < r := fun x hx => by
    obtain ⟨d1, d2, d3, ⟨v', d4⟩, ys, d5, d6, d7⟩ := h.done x (hp.mem_iff.1 hx)
    have hj : ∀ j, (itS x).ownBlock = some j → j < r := fun j hj => (G.lt x.1 v' d1 d4 j (by rw [d3 v' d4]; exact hj)).2
    refine ⟨d1, ys, d5, d6, Lay.own_keep d7 g5.size fun j hj' hjl => ?_, hj⟩
    rcases hj' with hj' | hj'
    · exact hj'.elim
    · exact g5.block j hjl fun e => by have := hol j e.symm; have := hj j hj'; omega
  have hex : ∀ x : ItV, ∃ ys : List Ct, x ∈ its' → ys.Perm (csOf hs x.1) ∧ (ys.Pairwise fun a b => ¬ CLt b a) ∧ kCt.own 69 W5 B (fun _ => False) (itS x) (dedP ys) := fun x => by
    by_cases hx : x ∈ its'
    · obtain ⟨_, ys, a1, a2, a3, _⟩ := hd x hx
      exact ⟨ys, fun _ => ⟨a1, a2, a3⟩⟩
    · exact ⟨[], fun h9 => absurd h9 hx⟩
  obtain ⟨f, hf⟩ : ∃ f : ItV → List Ct, ∀ x ∈ its', (f x).Perm (csOf hs x.1) ∧ ((f x).Pairwise fun a b => ¬ CLt b a) ∧ kCt.own 69 W5 B (fun _ => False) (itS x) (dedP (f x)) := ⟨fun x => (hex x).choose, fun x hx => (hex x).choose_spec hx⟩
  have hT : its'.map (fun x => (x.1, dedP (f x))) = tabP hs := by
    refine items_tab (fun y hy => ?_) (fun k hc => ?_) ?_
    · obtain ⟨x, hx, rfl⟩ := List.mem_map.1 hy
      exact ⟨(hd x hx).1, f x, (hf x hx).1, (hf x hx).2.1, rfl⟩
    · obtain ⟨x, hx, rfl⟩ := h.all k hc (hl _)
      exact ⟨_, List.mem_map.2 ⟨x, hp.mem_iff.2 hx, rfl⟩⟩
    · rw [List.pairwise_map]
      have hnd : (its'.map (·.1)).Nodup := (hp.map (·.1)).nodup_iff.2 h.nd
      rw [List.nodup_iff_pairwise_ne, List.pairwise_map] at hnd
      exact (hpw.and hnd).imp fun {a b} ⟨h1, h2⟩ => (sLt_tri h2).resolve_right (by rw [h1]; simp)
  have hown : kIt.own 99 W5 (r + 1) (fun j => j < r) out (its'.map fun x => (x.1, dedP (f x))) := by
    obtain ⟨ds, h1, h2, h3⟩ := ho
    refine ⟨ds, h1, by rw [List.length_map]; exact h2, fun i d y hd' hy => ?_⟩
    rw [List.getElem?_map] at hy
    obtain ⟨x, hx, rfl⟩ := Option.map_eq_some_iff.1 hy
    have e : d.1 = itCs x := h3 i d x hd' hx
    have hxm := List.mem_of_getElem? hx
    obtain ⟨_, ys, _, _, _, hj⟩ := hd x hxm
    obtain ⟨k, A, m, c⟩ := x
    have ho9 := (hf _ hxm).2.2
    obtain ⟨A9, c9, e9, hc9, hr9⟩ := Lay.own_row ho9
    obtain ⟨e1, e2, e3⟩ := Value.slice.inj e9
    simp only at e1 e2 e3
    rw [← e1, ← e2] at hr9
    rw [← e2, ← e3] at hc9
    refine kIt_rep.2 ⟨_, _, _, e, hc9, Lay.row_mono hr9 fun j hj' _ => ?_⟩
    rcases hj' with hj' | hj'
    · exact hj'.elim
    · have := hj j hj'
      exact ⟨this, fun e => by have := hol j e; omega⟩
  obtain ⟨A, c, e, hc, hr⟩ := Lay.own_row hown
  rw [hT] at hr
  refine ⟨A, _, c, e, ⟨Lay.row_mono (by rw [← hT] at hr ⊢; exact hr) fun _ _ _ => trivial, hc, reg_tab hs, tab_len hs, fun x hx => ?_⟩, ?_⟩
  · obtain ⟨c, hc⟩ := tab_key hx
    exact hk _ hc
  · refine ⟨g5.os.trans h.bel.os, g5.tape.trans h.bel.tape, g5.output.trans h.bel.output, Nat.le_trans h.bel.size g5.size, fun j hj => (g5.block j (by have := h.rg.lt; have := G.Br; omega) fun e => by have := hol j e.symm; have := G.Br; omega).trans (h.bel.block j hj)⟩
theorem GMap.itmG {B b n : Nat} {hs : List (List UInt8 × Ct)} {D : DV} {W : World} (h : GMap B b n hs D W) (hB : B ≤ W.heap.size) : ItmG B b W.heap.size hs D :=
  ⟨h.ap, fun k v hc ha j hj => by
    obtain ⟨v', h1, h2⟩ := h.row k hc
    rw [AtK.one ha h1] at hj
    exact Lay.own_lt h2 j hj, h.lt, hB⟩
theorem GMap.itmR {B b n : Nat} {hs : List (List UInt8 × Ct)} {D : DV} {w W : World} (h : GMap B b n hs D w) (hB : B ≤ w.heap.size) {cnt : Nat} (hrg : W.ranges Tryz.prog 9 rV b w.heap.size n D (Maps.has D) cnt) (hg : w.grownBy W none) : ItmR B b w.heap.size n hs D w (Maps.has D) cnt (.slice none 0 0) [] W :=
  ⟨hrg, fun k v hc _ ha => by
    obtain ⟨v', h1, h2⟩ := h.row k hc
    rw [AtK.one ha h1]
    exact Lay.own_keep h2 hg.size fun j _ hjl => hg.block j hjl (by simp), Lay.own_nil _ _ _ _ _, fun x hx => (by cases hx), fun k hc hl => (by rw [(h.has k).2 hc] at hl; cases hl), .nil, ⟨hg.os, hg.tape, hg.output, hg.size, fun j hj => hg.block j (by omega) (by simp)⟩⟩
theorem sort_iall (w : World) (B : Nat) (v : Value) (xs : List ItV) (h : kIv.own 99 w B (fun _ => False) v xs) (hl : xs.length ≤ 100000000) :
    Calls Tryz.prog 114 #[v, .func (.func 115) #[] #[]] w fun e w' => e = .returned (.tuple #[]) ∧ ∃ ys, ys.Perm xs ∧ (ys.Pairwise fun a b => sLt b.1 a.1 = false) ∧ kIv.own 99 w' B (fun _ => False) v ys ∧ w.grownBy w' v.ownBlock := by
  by_cases hne : xs = []
  · subst hne
    obtain ⟨A, c, rfl, _, _⟩ := Lay.own_row h
    refine (sort_none A c _ w).mono ?_
    rintro e w' ⟨rfl, rfl⟩
    exact ⟨rfl, [], List.Perm.refl _, .nil, h, ⟨rfl, rfl, rfl, Nat.le_refl _, fun _ _ _ => rfl⟩⟩
  · exact sort_iown w B v xs h hne hl
theorem csOf_len (hs : List (List UInt8 × Ct)) (k : List UInt8) : (csOf hs k).length ≤ hs.length := List.length_filterMap_le _ _
set_option maxHeartbeats 4000000 in
set_option maxRecDepth 100000 in
theorem items_any (w : World) (B b n : Nat) (hs : List (List UInt8 × Ct)) (D : DV) (h : GMap B b n hs D w) (hB : B ≤ w.heap.size) (hn : hs.length ≤ 40000000) (hk : ∀ x ∈ hs, x.1.length ≤ 1000) :
    Calls Tryz.prog 57 #[.map (some b)] w fun e w' => ∃ A m c, e = .returned (.slice A m c) ∧ TbH w' A m c hs ∧ Below B w w' := by
  have HG := Lib.hid (h.itmG hB)
  have HH := Lib.hid h
  have hown := h.own
  clear h
  obtain ⟨r, hr⟩ : ∃ r, w.heap.size = r := ⟨_, rfl⟩
  go_enter Tryz.func57, Tryz.ntmps57
  go_wp2_with (first
    | (at_range; refine wpList_range_own _ rfl _ 105 rfl 9 38 lawS Tryz.underlying105 rV b n _ rfl hown ?_; intro w0 hrg0 hg0 hs0)
    | go_in)
  go_frame
  have HST := Lib.hid (HH.out.itmR hB hrg0 hg0)
  rw [hr] at HG HST hrg0 hs0 ⊢
  clear hrg0 hg0 hs0 hown
  go_loopw [3] (fun s3 wr => ∃ (left : Lit → Bool) (cnt : Nat) (its : List ItV) (out : Value), out = s3 ∧ ItmR B b r n hs D w left cnt out its wr) (fun _ wr => wr.rangeLeft b r)
  case atStart => exact ⟨_, _, [], _, rfl, HST.out⟩
  case round =>
    obtain ⟨left, cnt, its, out, hout, hI⟩ := hrel
    subst hout
    have HI := Lib.hid hI
    have hrg := hI.rg
    clear hI
    go_wp2_with (first
      | (at_next; refine wpList_next_ranges _ rfl _ rfl 9 lawS rV id id (fun key _ _ => ⟨key, rfl⟩) (fun v _ _ => ⟨v, rfl⟩) b r n _ _ _ rfl hrg ?_ ?_)
      | go_in)
    · intro hc0 hl0
      have HS := Lib.hid (sort_iall wr (r + 1) out its HI.out.own (by have := HI.out.len; omega))
      have HL0 := Lib.hid hl0
      clear hl0 hrg
      go_wp2_with (first
        | (go_at_call 114; refine (HS.out).mono ?_; rintro e w5 ⟨rfl, its', hp, hpw, ho5, hg5⟩; have HE := Lib.hid (itm_fin HG.out HI.out hk HL0.out hp hpw ho5 hg5); clear hp hpw ho5 hg5)
        | go_in)
      go_ret
      obtain ⟨A, m, c, e, h1, h2⟩ := HE.out
      exact ⟨A, m, c, by rw [← e]; rfl, h1, h2⟩
    · intro x c kl yd yp w1 cnt1 hkey hlx hv hat hrg1 hlt hg1 hs1 hen
      obtain ⟨s, rfl, rfl, hsl⟩ := key_inv hkey
      have ha : AtK D s c := fun z => by
        rw [hat z]
        unfold rV at hv
        simp only [Option.some.injEq, Prod.mk.injEq] at hv
        exact hv.1.symm
      have hcs : csOf hs s ≠ [] := (HH.out.has s).1 (has_true_of_atKey hat)
      have hlen := csOf_len hs s
      have ho1 : kCt.own 69 w1 B (fun _ => False) c (csOf hs s) := Lay.own_keep (HI.out.todo s c hcs hlx ha) (by omega) fun j hj hjl => by
        rcases hj with hj | hj
        · exact hj.elim
        · have := HG.out.lt s c hcs ha j hj
          exact hg1.block j hjl (fun e => by have := Option.some.inj e; omega)
      have HSO := Lib.hid (sort_own w1 B c (csOf hs s) ho1 hcs (by omega))
      have HSTEP := Lib.hid (fun (W3 : World) (A : Option Addr) (m cc : Nat) (ys : List Ct) g3 hvb hp hpw ho => ItmR.step (W3 := W3) (A := A) (m := m) (c := cc) (ys := ys) HG.out HI.out hn hlx hcs ha hrg1 hg1 g3 hvb hp hpw ho)
      have HLT := Lib.hid hlt
      have HYL := Lib.hid (show ∀ ys : List Ct, ys.Perm (csOf hs s) → ys ≠ [] ∧ ys.length ≤ 100000000 from fun ys hp => ⟨fun e => hcs (by rw [e] at hp; exact List.Perm.nil_eq hp ▸ rfl), by rw [hp.length_eq]; omega⟩)
      clear ho1 hkey hv hat ha hcs hlen hlx hrg hrg1 hlt hg1 hs1

      go_wp2_with (first
        | (go_at_call 111; refine (HSO.out).mono ?_; rintro e w2 ⟨rfl, ys, hp, hpw, ho2, hg2⟩; have HC := Lib.hid (compact_own w2 B c ys ho2 (HYL.out ys hp).1 (HYL.out ys hp).2); have HP := Lib.hid hp; have HPW := Lib.hid hpw; have HG2 := Lib.hid hg2; clear hp hpw ho2 hg2)
        | (go_at_call 113; refine (HC.out).mono ?_; rintro e w3 ⟨v', rfl, hvb, ho3, hg3⟩; obtain ⟨A9, c9, rfl, _, _⟩ := Lay.own_row ho3; obtain ⟨A', c', w4, hrun, hst⟩ := HSTEP.out w3 A9 _ c9 ys (HG2.out.andThen hg3 fun j hj => .inr hj) hvb HP.out HPW.out ho3; have RUN := Lib.hid hrun; have HST4 := Lib.hid hst; clear hvb ho3 hg3 hrun hst)
        | (at_builtin; refine wpList_append_run (s := .tmp 15) (x := .tmp 20) RUN.out rfl rfl rfl rfl rfl ?_)
        | go_in)
      go_roundw
      case rel => exact ⟨_, cnt1, _, _, rfl, HST4.out⟩
      case measure => rw [HST4.out.rg.left_eq, HI.out.rg.left_eq]; exact HLT.out
end Go.Proofs.YtdbnddmncbjobaaGreatDoor

/- A row of the map grows: look-up, append, store. -/
namespace Go.Proofs.YtdbnddmncbjobaaGreatDoor
open Go Go.RowKit Go.Maps
attribute [local go_sem] Oper.semAt_some

theorem step_mapU {P : Program} {w : World} {ys : Nat → Option Bool} {o : Oper} {a : Act} {K : Act → World → Prop} {Q : Exit → Act → World → Prop} {E : Prop} {t : TypeId} {m k x : Operand} {vm vk vx : Value} {w' : World}
    (hr : (Instr.mapUpdate t vm vk vx).run P w = .ok () w') (hgd : o.guard = none) (ho : o.op = .mapUpdate t m k x) (hm : a.eval m = vm) (hk : a.eval k = vk) (hx : a.eval x = vx)
    (h : K (a.put o.dst undef) w') : if Region.wanted o ys = true then Oper.wp P o a w K Q else E := by
  have hw : Region.wanted o ys = true := by simp [Region.wanted, hgd]
  rw [if_pos hw]
  unfold Oper.wp
  simp [execOp, ho, hm, hk, hx, hr, Result.andThen]
  exact h
theorem GMap.raise {B B' b n : Nat} {D : DV} {W : World} (h : GMap B b n [] D W) (hB : b < B') : GMap B' b n [] D W :=
  ⟨h.own, hB, h.key, h.has, fun _ hk => absurd rfl hk, h.ap⟩
theorem GMap.look2 {B b n : Nat} {hs : List (List UInt8 × Ct)} {D : DV} {W : World} (h : GMap B b n hs D W) {k : List UInt8} (hk : k.length ≤ maxLen) :
    ∃ v, (∀ X : World, X.ownsMap Tryz.prog 9 rV b n D → (Instr.lookup 105 (.map (some b)) (.string ⟨k.toArray⟩) false).run Tryz.prog X = .ok v X) ∧ kCt.own 69 W B (fun _ => False) v (csOf hs k) ∧
      ∀ k' v', k ≠ k' → csOf hs k' ≠ [] → AtK D k' v' → ∀ j, v.ownBlock = some j → v'.ownBlock ≠ some j := by
  obtain ⟨v, hrun, ho, hap⟩ := h.look hk
  refine ⟨v, fun X hX => ?_, ho, hap⟩
  obtain ⟨v1, p1, r1, e1⟩ := h.own.lookup (t := 105) (e := 38) lawS Tryz.underlying105 (z := .slice none 0 0) (Tryz.zeroValue38 W) (zd := .held (.slice none 0 0)) (zp := []) rfl (keyS hk)
  obtain ⟨v2, p2, r2, e2⟩ := hX.lookup (t := 105) (e := 38) lawS Tryz.underlying105 (z := .slice none 0 0) (Tryz.zeroValue38 X) (zd := .held (.slice none 0 0)) (zp := []) rfl (keyS hk)
  rw [hrun] at r1
  obtain rfl : v = v1 := (Result.ok.inj r1).1
  have : v2 = v := by
    unfold rV at e1 e2
    simp only [Option.some.injEq, Prod.mk.injEq] at e1 e2
    have := e2.1.trans e1.1.symm
    injection this
  subst this
  exact r2
theorem own_lenF {W : World} {B : Nat} {v : Value} {xs : List Ct} (h : kCt.own 69 W B (fun _ => False) v xs) (X : World) (hX : W.grownBy X none) : kCt.own 69 X B (fun _ => False) v xs := Lay.own_keep h hX.size fun j _ hjl => hX.block j hjl (by simp)
/-- What an append and a store of places at a key give. -/
structure Pushed (B b n : Nat) (hs : List (List UInt8 × Ct)) (W X : World) (k : List UInt8) (ys : List Ct) (v : Value) (D' : DV) (X2 : World) : Prop where
  gm : GMap B b (n + 1) (hs ++ ys.map fun c => (k, c)) D' X2
  size : X.heap.size ≤ X2.heap.size
  os : X2.os = X.os
  tape : X2.tape = X.tape
  output : X2.output = X.output
  block : ∀ j, j < X.heap.size → (j < B ∨ W.heap.size ≤ j) → j ≠ b → X2.heap[j]? = X.heap[j]?
theorem GMap.push {B b n : Nat} {hs : List (List UInt8 × Ct)} {D : DV} {W : World} (h : GMap B b n hs D W) (hB : B ≤ W.heap.size) {k : List UInt8} (hk : k.length ≤ maxLen) (hn : n < 40000000) (hl : hs.length ≤ 40000000) :
    ∃ v, (∀ X : World, X.ownsMap Tryz.prog 9 rV b n D → (Instr.lookup 105 (.map (some b)) (.string ⟨k.toArray⟩) false).run Tryz.prog X = .ok v X) ∧
      ∀ (X : World) (_ : W.grownBy X none) (P : Nat → Prop) (A : Option Addr) (m c : Nat) (ys : List Ct), kCt.row X P A m ys → ys ≠ [] → ys.length ≤ 40000000 →
        ∃ A' m' c' X1, (Builtin.append_ #[38, 38] 38 #[v, .slice A m c]).run Tryz.prog X = .ok (.slice A' m' c') X1 ∧ X1.ownsMap Tryz.prog 9 rV b n D ∧ X.heap.size ≤ X1.heap.size ∧ (∀ j, j < X.heap.size → (j < B ∨ W.heap.size ≤ j) → j ≠ b → X1.heap[j]? = X.heap[j]?) ∧
          ∃ D' X2, (Instr.mapUpdate 105 (.map (some b)) (.string ⟨k.toArray⟩) (.slice A' m' c')).run Tryz.prog X1 = .ok () X2 ∧ Pushed B b n hs W X k ys v D' X2 := by
  obtain ⟨v, hlook, ho, hap⟩ := h.look2 hk
  refine ⟨v, hlook, fun X hX P A m c ys hr hy hyl => ?_⟩
  have hvl := Lay.own_lt ho
  have hoX := own_lenF ho X hX
  have hlen := csOf_len hs k
  have hrl := Lay.row_len hr
  obtain ⟨ds, e1, e2, e3, e4, e5⟩ := hr
  obtain ⟨A', c', X1, hrun, ho1, hb1, hk1, hs1, hn1⟩ := Lay.own_append (k := kCt) (P := Tryz.prog) (t := 38) (e := 69) Tryz.underlying38 info69 rfl (by decide) (by omega) hoX e3 e2 (fun i d x hd hx => kCt_rep.2 (kCt_rep.1 (e5 i d x hd hx))) c (by omega) (Nat.le_trans hB hX.size)
  have hbW := h.own.lt
  have hmap1 : X1.ownsMap Tryz.prog 9 rV b n D := by
    obtain ⟨es, clock, hb, F, hsz, hD⟩ := h.own
    exact ⟨es, clock, (hk1 b (Nat.lt_of_lt_of_le hbW hX.size) (fun e => by have := (hvl b e).1; have := h.lt; omega)).trans ((hX.block b hbW (by simp)).trans hb), F, hsz, hD⟩
  have kk : ∀ j, j < X.heap.size → (j < B ∨ W.heap.size ≤ j) → X1.heap[j]? = X.heap[j]? := fun j hj hj2 => hk1 j hj fun e => by
    have := hvl j e; omega
  refine ⟨A', _, c', X1, hrun, hmap1, hs1, fun j hj hj2 _ => kk j hj hj2, ?_⟩
  obtain ⟨X2, hrun2, hg2, hgr⟩ := (h.keep hX).store (W1 := X1) hk (by unfold maxLen; omega) (v := v) (v' := .slice A' ((csOf hs k).length + m) c') (ys := ys) hy hap (fun j hj => (hvl j hj).1) hs1 (fun j hj hne => hk1 j hj hne) ho1 (fun j hj => (hn1 j hj).imp id id)
  refine ⟨_, X2, hrun2, hg2, Nat.le_trans hs1 hgr.size, hgr.os.trans (hb1 0 (Nat.zero_le _)).os, hgr.tape.trans (hb1 0 (Nat.zero_le _)).tape, hgr.output.trans (hb1 0 (Nat.zero_le _)).output, fun j hj hj2 hjb => ?_⟩
  exact (hgr.block j (Nat.lt_of_lt_of_le hj hs1) fun e => hjb (Option.some.inj e)).trans (kk j hj hj2)
/-- No row of the map lies in a block of K. -/
def GAv (K : Nat → Prop) (D : DV) (hs : List (List UInt8 × Ct)) : Prop := ∀ k v, csOf hs k ≠ [] → AtK D k v → ∀ j, v.ownBlock = some j → ¬ K j
structure Pushd (B b n : Nat) (hs : List (List UInt8 × Ct)) (D : DV) (X : World) (k : List UInt8) (ys : List Ct) (v : Value) (D' : DV) (X2 : World) : Prop where
  gm : GMap B b (n + 1) (hs ++ ys.map fun c => (k, c)) D' X2
  size : X.heap.size ≤ X2.heap.size
  os : X2.os = X.os
  tape : X2.tape = X.tape
  output : X2.output = X.output
  block : ∀ j, j < X.heap.size → v.ownBlock ≠ some j → j ≠ b → X2.heap[j]? = X.heap[j]?
  av : ∀ K : Nat → Prop, GAv K D hs → (∀ j, K j → j < X.heap.size) → GAv K D' (hs ++ ys.map fun c => (k, c))
theorem GMap.look3 {B b n : Nat} {hs : List (List UInt8 × Ct)} {D : DV} {W : World} (h : GMap B b n hs D W) {k : List UInt8} (hk : k.length ≤ maxLen) :
    ∃ v, (∀ X : World, X.ownsMap Tryz.prog 9 rV b n D → (Instr.lookup 105 (.map (some b)) (.string ⟨k.toArray⟩) false).run Tryz.prog X = .ok v X) ∧ kCt.own 69 W B (fun _ => False) v (csOf hs k) ∧
      (∀ k' v', k ≠ k' → csOf hs k' ≠ [] → AtK D k' v' → ∀ j, v.ownBlock = some j → v'.ownBlock ≠ some j) ∧ (v = .slice none 0 0 ∨ (csOf hs k ≠ [] ∧ AtK D k v)) := by
  obtain ⟨v, hlook, ho, hap⟩ := h.look2 hk
  refine ⟨v, hlook, ho, hap, ?_⟩
  obtain ⟨v1, p1, r1, e1⟩ := h.own.lookup (t := 105) (e := 38) lawS Tryz.underlying105 (z := .slice none 0 0) (Tryz.zeroValue38 W) (zd := .held (.slice none 0 0)) (zp := []) rfl (keyS hk)
  obtain rfl : v = v1 := (Result.ok.inj ((hlook W h.own).symm.trans r1)).1
  have e2 : D.atKey (.string k) (.held (.slice none 0 0)) = .held v := by
    unfold rV at e1; simp only [Option.some.injEq, Prod.mk.injEq] at e1; exact e1.1.symm
  by_cases hc : csOf hs k = []
  · left
    have hf : Maps.has D (.string k) = false := by
      cases h9 : Maps.has D (.string k)
      · rfl
      · exact absurd hc ((h.has k).1 h9)
    rw [atKey_of_not_has hf] at e2
    exact (DataW.held.inj e2).symm
  · right
    obtain ⟨v2, h2, h3⟩ := h.row k hc
    rw [h2] at e2
    obtain rfl : v2 = v := DataW.held.inj e2
    exact ⟨hc, h2⟩
theorem GMap.push2 {B b n : Nat} {hs : List (List UInt8 × Ct)} {D : DV} {W : World} (h : GMap B b n hs D W) (hB : B ≤ W.heap.size) {k : List UInt8} (hk : k.length ≤ maxLen) (hn : n < 40000000) (hl : hs.length ≤ 40000000) :
    ∃ v, (∀ X : World, X.ownsMap Tryz.prog 9 rV b n D → (Instr.lookup 105 (.map (some b)) (.string ⟨k.toArray⟩) false).run Tryz.prog X = .ok v X) ∧ (∀ K : Nat → Prop, GAv K D hs → ∀ j, v.ownBlock = some j → ¬ K j) ∧ (∀ j, v.ownBlock = some j → j < W.heap.size) ∧
      ∀ (X : World) (_ : W.grownBy X none) (P : Nat → Prop) (A : Option Addr) (m c : Nat) (ys : List Ct), kCt.row X P A m ys → ys ≠ [] → ys.length ≤ 10000000 →
        ∃ A' m' c' X1, (Builtin.append_ #[38, 38] 38 #[v, .slice A m c]).run Tryz.prog X = .ok (.slice A' m' c') X1 ∧ X1.ownsMap Tryz.prog 9 rV b n D ∧ (∀ j, j < X.heap.size → v.ownBlock ≠ some j → X1.heap[j]? = X.heap[j]?) ∧
          ∃ D' X2, (Instr.mapUpdate 105 (.map (some b)) (.string ⟨k.toArray⟩) (.slice A' m' c')).run Tryz.prog X1 = .ok () X2 ∧ Pushd B b n hs D X k ys v D' X2 := by
  obtain ⟨v, hlook, ho, hap, hvc⟩ := h.look3 hk
  have hvl := Lay.own_lt ho
  have hvK : ∀ K : Nat → Prop, GAv K D hs → ∀ j, v.ownBlock = some j → ¬ K j := fun K hK j hj => by
    rcases hvc with rfl | ⟨hc, ha⟩
    · simp [Value.ownBlock] at hj
    · exact hK k v hc ha j hj
  refine ⟨v, hlook, hvK, fun j hj => (hvl j hj).2, fun X hX P A m c ys hr hy hyl => ?_⟩
  have hoX := own_lenF ho X hX
  have hlen := csOf_len hs k
  have hrl := Lay.row_len hr
  obtain ⟨ds, e1, e2, e3, e4, e5⟩ := hr
  obtain ⟨A', c', X1, hrun, ho1, hb1, hk1, hs1, hn1⟩ := Lay.own_append (k := kCt) (P := Tryz.prog) (t := 38) (e := 69) Tryz.underlying38 info69 rfl (by decide) (by omega) hoX e3 e2 (fun i d x hd hx => kCt_rep.2 (kCt_rep.1 (e5 i d x hd hx))) c (by omega) (Nat.le_trans hB hX.size)
  have hbW := h.own.lt
  have hmap1 : X1.ownsMap Tryz.prog 9 rV b n D := by
    obtain ⟨es, clock, hb, F, hsz, hD⟩ := h.own
    exact ⟨es, clock, (hk1 b (Nat.lt_of_lt_of_le hbW hX.size) (fun e => by have := (hvl b e).1; have := h.lt; omega)).trans ((hX.block b hbW (by simp)).trans hb), F, hsz, hD⟩
  refine ⟨A', _, c', X1, hrun, hmap1, hk1, ?_⟩
  obtain ⟨X2, hrun2, hg2, hgr⟩ := (h.keep hX).store (W1 := X1) hk (by unfold maxLen; omega) (v := v) (v' := .slice A' ((csOf hs k).length + m) c') (ys := ys) hy hap (fun j hj => (hvl j hj).1) hs1 (fun j hj hne => hk1 j hj hne) ho1 (fun j hj => (hn1 j hj).imp id id)
  refine ⟨_, X2, hrun2, hg2, Nat.le_trans hs1 hgr.size, hgr.os.trans (hb1 0 (Nat.zero_le _)).os, hgr.tape.trans (hb1 0 (Nat.zero_le _)).tape, hgr.output.trans (hb1 0 (Nat.zero_le _)).output, fun j hj hj2 hjb => ?_, fun K hK hKl k' u hc ha j hj hKj => ?_⟩
  · exact (hgr.block j (Nat.lt_of_lt_of_le hj hs1) fun e => hjb (Option.some.inj e)).trans (hk1 j hj hj2)
  · have hm : IsMap D := by obtain ⟨es, _, _, _, _, rfl⟩ := h.own; exact ⟨_, rfl⟩
    by_cases e : k = k'
    · subst e
      have hput : AtK (D.put (.string k) (.held (.slice A' ((csOf hs k).length + m) c'))) k (.slice A' ((csOf hs k).length + m) c') := fun z => atKey_put_same hm (keyLit hk) _ _
      rw [AtK.one ha hput] at hj
      rcases hn1 j hj with h9 | h9
      · exact hvK K hK j h9 hKj
      · have := hKl j hKj; omega
    · have hne : Lit.string k' ≠ Lit.string k := fun e9 => e (Lit.string.inj e9).symm
      have ha' : AtK D k' u := fun z => by have := ha z; rwa [atKey_put_other hne] at this
      rw [csOf_append, csOf_other e, List.append_nil] at hc
      exact hK k' u hc ha' j hj hKj
/-- What is kept while the map grows: the blocks of K, which no row of the map lies in. -/
structure Kpt (b : Nat) (K : Nat → Prop) (hs : List (List UInt8 × Ct)) (D : DV) (W0 W : World) : Prop where
  os : W.os = W0.os
  tape : W.tape = W0.tape
  output : W.output = W0.output
  size : W0.heap.size ≤ W.heap.size
  av : GAv K D hs
  nb : ¬ K b
  lt : ∀ j, K j → j < W0.heap.size
  block : ∀ j, K j → W.heap[j]? = W0.heap[j]?
theorem Kpt.start {b : Nat} {K : Nat → Prop} {hs : List (List UInt8 × Ct)} {D : DV} {W : World} (av : GAv K D hs) (nb : ¬ K b) (lt : ∀ j, K j → j < W.heap.size) : Kpt b K hs D W W := ⟨rfl, rfl, rfl, Nat.le_refl _, av, nb, lt, fun _ _ => rfl⟩
theorem Kpt.ext {b : Nat} {K : Nat → Prop} {hs : List (List UInt8 × Ct)} {D : DV} {W0 W Y : World} (h : Kpt b K hs D W0 W) (os : Y.os = W.os) (tape : Y.tape = W.tape) (output : Y.output = W.output) (size : W.heap.size ≤ Y.heap.size) (blk : ∀ j, j < W.heap.size → Y.heap[j]? = W.heap[j]?) : Kpt b K hs D W0 Y :=
  ⟨os.trans h.os, tape.trans h.tape, output.trans h.output, Nat.le_trans h.size size, h.av, h.nb, h.lt, fun j hj => (blk j (Nat.lt_of_lt_of_le (h.lt j hj) h.size)).trans (h.block j hj)⟩
theorem Kpt.push {B b n : Nat} {K : Nat → Prop} {hs : List (List UInt8 × Ct)} {D D' : DV} {W0 X X2 : World} {k : List UInt8} {ys : List Ct} {v : Value} (h : Kpt b K hs D W0 X) (hv : ∀ K : Nat → Prop, GAv K D hs → ∀ j, v.ownBlock = some j → ¬ K j) (hp : Pushd B b n hs D X k ys v D' X2) : Kpt b K (hs ++ ys.map fun c => (k, c)) D' W0 X2 :=
  have hl : ∀ j, K j → j < X.heap.size := fun j hj => Nat.lt_of_lt_of_le (h.lt j hj) h.size
  ⟨hp.os.trans h.os, hp.tape.trans h.tape, hp.output.trans h.output, Nat.le_trans h.size hp.size, hp.av K h.av hl, h.nb, h.lt, fun j hj => (hp.block j (hl j hj) (fun e => hv K h.av j e hj) (fun e => h.nb (e ▸ hj))).trans (h.block j hj)⟩
/-- Blocks that have been made since are kept besides. -/
theorem Kpt.widen {B b n : Nat} {K : Nat → Prop} {hs : List (List UInt8 × Ct)} {D : DV} {W0 W Y : World} (h : Kpt b K hs D W0 W) (hg : GMap B b n hs D W) (size : W.heap.size ≤ Y.heap.size) : Kpt b (fun j => K j ∨ (W.heap.size ≤ j ∧ j < Y.heap.size)) hs D Y Y :=
  Kpt.start (fun k v hc ha j hj hKj => by
    rcases hKj with hKj | hKj
    · exact h.av k v hc ha j hj hKj
    · obtain ⟨v', h1, h2⟩ := hg.row k hc
      rw [AtK.one ha h1] at hj
      have := (Lay.own_lt h2 j hj).2
      omega) (fun hb => hb.elim h.nb fun hb => by have := hg.own.lt; omega) fun j hj => hj.elim (fun hj => Nat.lt_of_lt_of_le (h.lt j hj) (Nat.le_trans h.size size)) (·.2)
theorem Kpt.narrow {b : Nat} {K K' : Nat → Prop} {hs hs' : List (List UInt8 × Ct)} {D D' : DV} {W0 W Y Z : World} (h : Kpt b K hs D W0 W) (os : Y.os = W.os) (tape : Y.tape = W.tape) (output : Y.output = W.output) (size : W.heap.size ≤ Y.heap.size) (blk : ∀ j, j < W.heap.size → Y.heap[j]? = W.heap[j]?)
    (h' : Kpt b K' hs' D' Y Z) (hK : ∀ j, K j → K' j) : Kpt b K hs' D' W0 Z :=
  have h1 := h.ext os tape output size blk
  ⟨h'.os.trans h1.os, h'.tape.trans h1.tape, h'.output.trans h1.output, Nat.le_trans h1.size h'.size, fun k v hc ha j hj hKj => h'.av k v hc ha j hj (hK j hKj), h.nb, h.lt, fun j hj => (h'.block j (hK j hj)).trans (h1.block j hj)⟩
end Go.Proofs.YtdbnddmncbjobaaGreatDoor

/- index.Merge: walked (printed by genyo.py). -/
namespace Go.Proofs.YtdbnddmncbjobaaGreatDoor
open Go Go.RowKit Go.Maps
attribute [local go_sem] Oper.semAt_some

/-- Nothing below B but the block b has turned. -/
structure Bsd (B b : Nat) (W X : World) : Prop where
  os : X.os = W.os
  tape : X.tape = W.tape
  output : X.output = W.output
  size : W.heap.size ≤ X.heap.size
  block : ∀ j, j < B → j ≠ b → X.heap[j]? = W.heap[j]?
theorem Bsd.refl (B b : Nat) (W : World) : Bsd B b W W := ⟨rfl, rfl, rfl, Nat.le_refl _, fun _ _ _ => rfl⟩
theorem Bsd.ext {B b : Nat} {W X : World} (h : Bsd B b W X) (hB : B ≤ W.heap.size) {Y : World} (hY : Ext X Y) : Bsd B b W Y :=
  ⟨hY.os.trans h.os, hY.tape.trans h.tape, hY.output.trans h.output, Nat.le_trans h.size hY.size, fun j hj hb => (hY.block j (by have := h.size; omega)).trans (h.block j hj hb)⟩
theorem Bsd.push {B b n : Nat} {hs : List (List UInt8 × Ct)} {W0 W X X2 : World} {k : List UInt8} {ys : List Ct} {v : Value} {D' : DV} (h : Bsd B b W0 W) (hB : B ≤ W0.heap.size) (hX : Ext W X) (hp : Pushed B b n hs W X k ys v D' X2) : Bsd B b W0 X2 :=
  have h2 := h.ext hB hX
  ⟨hp.os.trans h2.os, hp.tape.trans h2.tape, hp.output.trans h2.output, Nat.le_trans h2.size hp.size, fun j hj hb => (hp.block j (by have := h2.size; omega) (.inl hj) hb).trans (h2.block j hj hb)⟩
theorem Ext.grown {W X : World} (h : Ext W X) : W.grownBy X none := ⟨h.os, h.tape, h.output, h.size, fun j hj _ => h.block j hj⟩
def MeR (B b N : Nat) (U : Tb) (w2 : World) (s14 : Value) (W : World) : Prop := ∃ (i : Nat) (D : DV), i ≤ N ∧ s14 = .int .i64 i ∧ GMap B b i (prs (U.take i)) D W ∧ Bsd B b w2 W
set_option maxHeartbeats 4000000 in
set_option maxRecDepth 100000 in
theorem imerge_any (w : World) (A A' : Option Addr) (n n' c c' M M' : Nat) (S T : Tb) (hS : TbV w A n c S M) (hT : TbV w A' n' c' T M') (hM : M + M' ≤ 10000) :
    Calls Tryz.prog 25 #[.slice A n c, .slice A' n' c'] w fun e w' => ∃ A1 n1 c1, e = .returned (.slice A1 n1 c1) ∧ TbV w' A1 n1 c1 (mrgP S T) (M + M') ∧ Ext w w' := by
  have hmm := @run_makeMap Tryz.prog
  obtain ⟨hn, hnM, _⟩ := hS.n
  obtain ⟨hn', hnM', _⟩ := hT.n
  obtain ⟨U, hU⟩ : ∃ U, S ++ T = U := ⟨_, rfl⟩
  have HUL := Lib.hid (show U.length = n + n' by rw [← hU, List.length_append, hn, hn'])
  have HUP := Lib.hid (show (prs U).length ≤ M + M' by rw [← hU, prs_append, List.length_append]; have := hS.len; have := hT.len; omega)
  have HUK := Lib.hid (show ∀ x ∈ U, x.1.length ≤ 1000 ∧ x.2 ≠ [] by
    rw [← hU]; intro x hx
    rcases List.mem_append.1 hx with hx | hx
    · exact ⟨hS.key x hx, hS.reg.some x hx⟩
    · exact ⟨hT.key x hx, hT.reg.some x hx⟩)
  have HMR := Lib.hid (show tabP (prs U) = mrgP S T by unfold mrgP; rw [← hU, prs_append])
  obtain ⟨b, hb⟩ : ∃ b, w.heap.size = b := ⟨_, rfl⟩
  obtain ⟨w0, hw0⟩ : ∃ w0, w.alloc (.map #[] 0) = w0 := ⟨_, rfl⟩
  have hx0 : Ext w w0 := by rw [← hw0]; exact (Ext.refl w).alloc _
  have hg0 : GMap (b + 1) b 0 [] (.map []) w0 := by rw [← hw0, ← hb]; exact GMap.made w
  obtain ⟨g, hg⟩ : ∃ g, w0.heap.size = g := ⟨_, rfl⟩
  have hgb : g = b + 1 := by rw [← hg, ← hw0, ← hb]; simp
  subst hgb
  obtain ⟨w1, hw1⟩ : ∃ w1, w0.alloc (.cells #[.slice A n c, .slice A' n' c'] 33) = w1 := ⟨_, rfl⟩
  have hx1 : Ext w0 w1 := by rw [← hw1]; exact (Ext.refl w0).alloc _
  have hG : w1.heap[b + 1]? = some (.cells #[.slice A n c, .slice A' n' c'] 33 (0, 0)) := by rw [← hw1, ← hg]; exact heap_alloc_new _ _
  have HCAT := Lib.hid (cat70 kIt kIt_sz (fun j => j < b) w1 (b + 1) A A' n n' c c' S T (Lay.row_ext (Lay.row_mono hS.row fun j _ hj => by rw [← hb]; exact hj) (hx0.trans hx1)) (Lay.row_ext (Lay.row_mono hT.row fun j _ hj => by rw [← hb]; exact hj) (hx0.trans hx1)) (by omega) (by omega) (lt_of_block hG) (cell_of hG (i := 0) rfl) (cell_of hG (i := 1) rfl))
  rw [hU] at HCAT
  have HG0 := Lib.hid hg0
  have HX0 := Lib.hid hx0
  have HX1 := Lib.hid hx1
  have HGB := Lib.hid hG
  have hb1 : b + 1 ≤ w1.heap.size := by have := hx1.lt; omega
  have HB1 := Lib.hid hb1
  obtain ⟨N, hN⟩ : ∃ N, n + n' = N := ⟨_, rfl⟩
  have HN := Lib.hid hN
  have HWB := Lib.hid hb
  clear hS hT hn hn' hU hg0 hx0 hx1 hG hb1
  go_enter Tryz.func25, Tryz.ntmps25
  go_wp2_with (first
    | (go_at_call 70; refine (HCAT.out).mono ?_; rintro e w2 ⟨A1, c1, rfl, ho, hx2⟩; have HO := Lib.hid ho; have HX2 := Lib.hid hx2; clear ho hx2))
  rw [HUL.out, HN.out] at HO ⊢
  obtain ⟨B, hB⟩ : ∃ B, w2.heap.size = B := ⟨_, rfl⟩
  have hBb : b + 1 < B := by have := HX2.out.lt; have := lt_of_block HGB.out; omega
  have hgm := ((HG0.out.keep (HX1.out.trans HX2.out).grown).raise (B' := B) (by omega))
  have HRU := Lib.hid (show kIt.row w2 (fun j => j < B ∧ j ≠ b) A1 N U from by
    obtain ⟨A9, c9, e9, _, hr9⟩ := Lay.own_row HO.out
    have hlt := Lay.own_lt HO.out
    obtain ⟨rfl, e2, _⟩ := Value.slice.inj e9
    rw [← e2] at hr9
    refine Lay.row_mono hr9 fun j hj hjl => ⟨by omega, ?_⟩
    rcases hj with hj | hj
    · omega
    · have := (hlt j hj).1; have := HB1.out; omega)
  have HXB := Lib.hid (show Ext w w2 from HX0.out.trans (HX1.out.trans HX2.out))
  have HBB := Lib.hid (And.intro hBb hB)
  have HG2 := Lib.hid hgm
  have hN4 : N ≤ 10000 := by have := HN.out; omega
  clear hgm hBb hB HG0 HO HX0 HX1 HX2 HCAT HGB HB1
  go_loopw [7, 14] (fun _ s14 W => MeR B b N U w2 s14 W) (fun _ s14 _ => toM N s14)
  case atStart => exact ⟨0, .map [], by omega, rfl, HG2.out, Bsd.refl _ _ _⟩
  case round =>
    obtain ⟨i, D, hi, rfl, hgm, hbs⟩ := hrel
    have HGM := Lib.hid hgm
    have HBS := Lib.hid hbs
    clear hgm hbs
    have hw1' : IntKind.i64.wrap ((i : Int) + 1) = (i : Int) + 1 := IntWalk.i64_in _ (by omega)
    by_cases hlt : i < N
    case neg =>
      have hni : ¬ ((i : Int) < (N : Int)) := by omega
      have hti : U.take i = U := List.take_of_length_le (by rw [HUL.out, HN.out]; omega)
      have hgm9 := HGM.out
      rw [hti] at hgm9
      have hBw : B ≤ wr.heap.size := by have := HBB.out.2; have := HBS.out.size; omega
      have HIT := Lib.hid (items_any wr B b i (prs U) D hgm9 hBw (by have := HUP.out; omega) (fun h hh => by
        obtain ⟨l, hl, _⟩ := (mem_prs U h.1 h.2).1 hh
        exact (HUK.out _ hl).1))
      clear hgm9 hti hBw
      go_wp2_with (first | (go_at_call 57; refine (HIT.out).mono ?_; rintro e w5 ⟨A5, m5, c5, rfl, hT5, hb5⟩; have HT5 := Lib.hid hT5; have HB5 := Lib.hid hb5; clear hT5 hb5))
      go_ret
      refine ⟨A5, m5, c5, rfl, by rw [← HMR.out]; exact HT5.out.mono HUP.out, ?_⟩
      have h1 := HB5.out
      have h2 := HBS.out
      have h3 := HXB.out
      exact ⟨h1.os.trans (h2.os.trans h3.os), h1.tape.trans (h2.tape.trans h3.tape), h1.output.trans (h2.output.trans h3.output), Nat.le_trans h3.size (Nat.le_trans h2.size h1.size), fun j hj => by
        have hjb : j < b := by rw [← HWB.out]; exact hj
        have := HBB.out.1
        exact (h1.block j (by omega)).trans ((h2.block j (by omega) (by omega)).trans (h3.block j hj))⟩
    have hI : (i : Int) < (N : Int) := by omega
    obtain ⟨x, hx⟩ : ∃ x, U[i]? = some x := ⟨_, List.getElem?_eq_getElem (by rw [HUL.out, HN.out]; exact hlt)⟩
    have hxm := HUK.out x (List.mem_of_getElem? hx)
    have hru : kIt.row wr (fun j => j < B ∧ j ≠ b) A1 N U := Lay.row_keep HRU.out HBS.out.size fun j hj _ => HBS.out.block j hj.1 hj.2
    obtain ⟨gb, off, A2, n2, c2, rfl, hgbl, a0, a1, hnc2, hr2⟩ := it_at hru hx
    have hY0 : ∀ o, (wr.alloc o).cell? ⟨gb, off + i * 2, none⟩ = some (.string ⟨x.1.toArray⟩) := fun o => (((Ext.refl wr).alloc o).cells.1 gb _ hgbl).trans a0
    have hY1 : ∀ o, (wr.alloc o).cell? ⟨gb, off + i * 2 + 1, none⟩ = some (.slice A2 n2 c2) := fun o => (((Ext.refl wr).alloc o).cells.1 gb _ hgbl).trans a1
    obtain ⟨z, hz⟩ : ∃ z, wr.heap.size = z := ⟨_, rfl⟩
    obtain ⟨w3, hw3⟩ : ∃ w3, wr.alloc (.cells #[.string ⟨x.1.toArray⟩, .slice A2 n2 c2] 99) = w3 := ⟨_, rfl⟩
    have hx3 : Ext wr w3 := by rw [← hw3]; exact (Ext.refl wr).alloc _
    have hB3 : w3.heap[z]? = some (.cells #[.string ⟨x.1.toArray⟩, .slice A2 n2 c2] 99 (0, 0)) := by rw [← hw3, ← hz]; exact heap_alloc_new _ _
    have hzl := lt_of_block hB3
    have hBw : B ≤ wr.heap.size := by have := HBB.out.2; have := HBS.out.size; omega
    have htk := prs_take hx
    have htl := prs_take_le U (i + 1)
    have htl2 := prs_take_le U i
    obtain ⟨v, hlook, hpush⟩ := GMap.push HGM.out hBw (k := x.1) (by unfold maxLen; omega) (by omega) (by have := HUP.out; omega)
    obtain ⟨A5, m5, c5, X1, hrun, hmap1, hs1, hk1, D', X2, hrun2, hp⟩ := hpush w3.drew hx3.drew.grown _ A2 n2 c2 x.2 (Lay.row_ext hr2 hx3.drew) hxm.2 (by rw [htk, List.length_append, List.length_map] at htl; have := HUP.out; omega)
    have hzb : z ≠ b := by have := HBB.out.1; omega
    have HS := Lib.hid (show w3.drew.cell? ⟨z, 0, none⟩ = some (.string ⟨x.1.toArray⟩) ∧ w3.drew.cell? ⟨z, 1, none⟩ = some (.slice A2 n2 c2) ∧ (Instr.lookup 105 (.map (some b)) (.string ⟨x.1.toArray⟩) false).run Tryz.prog w3.drew = .ok v w3.drew from
      ⟨cell_of (W := w3.drew) hB3 (i := 0) rfl, cell_of (W := w3.drew) hB3 (i := 1) rfl, hlook _ (HGM.out.own.kept hx3.drew.grown (by simp))⟩)
    have HS1 := Lib.hid (show X1.cell? ⟨z, 0, none⟩ = some (.string ⟨x.1.toArray⟩) ∧ X1.cell? ⟨z, 1, none⟩ = some (.slice A2 n2 c2) ∧ (Instr.lookup 105 (.map (some b)) (.string ⟨x.1.toArray⟩) false).run Tryz.prog X1 = .ok v X1 from by
      have h9 : X1.heap[z]? = _ := (hk1 z hzl (.inr (by omega)) hzb).trans hB3
      exact ⟨cell_of h9 (i := 0) rfl, cell_of h9 (i := 1) rfl, hlook _ hmap1⟩)
    have RUN := Lib.hid hrun
    have RUN2 := Lib.hid hrun2
    have HREL := Lib.hid (show MeR B b N U w2 (.int .i64 ((i : Int) + 1)) X2 from ⟨i + 1, D', by omega, by simp, by rw [htk]; exact hp.gm, HBS.out.push (by have := HBB.out.2; omega) hx3.drew hp⟩)
    clear hx hxm hru hr2 hx3 hB3 hzl hBw htk htl htl2 hlook hpush hrun hmap1 hs1 hk1 hrun2 hp hzb
    go_upto_region 5 with (fail)
    have hS0 : (fun X : World => X.cell? ⟨z, 0, none⟩ = some (.string ⟨x.1.toArray⟩) ∧ X.cell? ⟨z, 1, none⟩ = some (.slice A2 n2 c2) ∧ (Instr.lookup 105 (.map (some b)) (.string ⟨x.1.toArray⟩) false).run Tryz.prog X = .ok v X) w3.drew := HS.out
    refine wp_region_E (fun X : World => X.cell? ⟨z, 0, none⟩ = some (.string ⟨x.1.toArray⟩) ∧ X.cell? ⟨z, 1, none⟩ = some (.slice A2 n2 c2) ∧ (Instr.lookup 105 (.map (some b)) (.string ⟨x.1.toArray⟩) false).run Tryz.prog X = .ok v X) (fun _ => True) (fun i => i == 10) (by kernel_rfl) ?_
    refine wpE_takeS (i := 0) (d := some 18) (v := .map (some b)) rfl rfl (by kernel_rfl) (by kernel_rfl) (by kernel_rfl) (by kernel_rfl) (fun _ _ _ h => h) (by rfl) ?hy1 hS0 trivial ?go1
    case hy1 =>
      intro w9 hT9
      clear hT9; go_simp
    (try simp only [Act.put, List.setIfInBounds_toArray, List.set_cons_zero, List.set_cons_succ])
    refine wpE_takeS (i := 1) (d := some 19) (v := .pointer (some ⟨z, 0, none⟩)) rfl rfl (by kernel_rfl) (by kernel_rfl) (by kernel_rfl) (by kernel_rfl) (fun _ _ _ h => h) (by rfl) ?hy2 hS0 trivial ?go2
    case hy2 =>
      intro w9 hT9
      clear hT9; go_simp
    (try simp only [Act.put, List.setIfInBounds_toArray, List.set_cons_zero, List.set_cons_succ])
    refine wpE_takeS (i := 2) (d := some 20) (v := .string ⟨x.1.toArray⟩) rfl rfl (by kernel_rfl) (by kernel_rfl) (by kernel_rfl) (by kernel_rfl) (fun _ _ _ h => h) (by rfl) ?hy3 hS0 trivial ?go3
    case hy3 =>
      intro w9 hT9
      obtain ⟨s0, s1, s2⟩ := hT9; go_simp
    (try simp only [Act.put, List.setIfInBounds_toArray, List.set_cons_zero, List.set_cons_succ])
    refine wpE_takeS (i := 3) (d := some 21) (v := .map (some b)) rfl rfl (by kernel_rfl) (by kernel_rfl) (by kernel_rfl) (by kernel_rfl) (fun _ _ _ h => h) (by rfl) ?hy4 hS0 trivial ?go4
    case hy4 =>
      intro w9 hT9
      clear hT9; go_simp
    (try simp only [Act.put, List.setIfInBounds_toArray, List.set_cons_zero, List.set_cons_succ])
    refine wpE_takeS (i := 4) (d := some 22) (v := .pointer (some ⟨z, 0, none⟩)) rfl rfl (by kernel_rfl) (by kernel_rfl) (by kernel_rfl) (by kernel_rfl) (fun _ _ _ h => h) (by rfl) ?hy5 hS0 trivial ?go5
    case hy5 =>
      intro w9 hT9
      clear hT9; go_simp
    (try simp only [Act.put, List.setIfInBounds_toArray, List.set_cons_zero, List.set_cons_succ])
    refine wpE_takeS (i := 5) (d := some 23) (v := .string ⟨x.1.toArray⟩) rfl rfl (by kernel_rfl) (by kernel_rfl) (by kernel_rfl) (by kernel_rfl) (fun _ _ _ h => h) (by rfl) ?hy6 hS0 trivial ?go6
    case hy6 =>
      intro w9 hT9
      obtain ⟨s0, s1, s2⟩ := hT9; go_simp
    (try simp only [Act.put, List.setIfInBounds_toArray, List.set_cons_zero, List.set_cons_succ])
    refine wpE_takeS (i := 6) (d := some 24) (v := v) rfl rfl (by kernel_rfl) (by kernel_rfl) (by kernel_rfl) (by kernel_rfl) (fun _ _ _ h => h) (by rfl) ?hy7 hS0 trivial ?go7
    case hy7 =>
      intro w9 hT9
      obtain ⟨s0, s1, s2⟩ := hT9; go_simp
    (try simp only [Act.put, List.setIfInBounds_toArray, List.set_cons_zero, List.set_cons_succ])
    refine wpE_takeS (i := 7) (d := some 25) (v := .pointer (some ⟨z, 1, none⟩)) rfl rfl (by kernel_rfl) (by kernel_rfl) (by kernel_rfl) (by kernel_rfl) (fun _ _ _ h => h) (by rfl) ?hy8 hS0 trivial ?go8
    case hy8 =>
      intro w9 hT9
      clear hT9; go_simp
    (try simp only [Act.put, List.setIfInBounds_toArray, List.set_cons_zero, List.set_cons_succ])
    refine wpE_takeS (i := 8) (d := some 26) (v := .slice A2 n2 c2) rfl rfl (by kernel_rfl) (by kernel_rfl) (by kernel_rfl) (by kernel_rfl) (fun _ _ _ h => h) (by rfl) ?hy9 hS0 trivial ?go9
    case hy9 =>
      intro w9 hT9
      obtain ⟨s0, s1, s2⟩ := hT9; go_simp
    (try simp only [Act.put, List.setIfInBounds_toArray, List.set_cons_zero, List.set_cons_succ])
    refine wpE_all (rs := [9]) (by kernel_rfl) (by simp) ?_
    refine AllE.cons rfl (fun K hK => ?_) AllE.nil
    simp only [List.getElem_toArray, List.getElem_cons_succ, List.getElem_cons_zero]
    refine step_append_tm (s := .tmp 24) (x := .tmp 26) RUN.out rfl rfl rfl rfl rfl ?_
    refine hK.out _ _ ⟨fun _ => HS1.out, trivial⟩ (fun _ => ?_)
    clear hK K
    have hS0 := HS1.out
    (try simp only [Act.put, List.setIfInBounds_toArray, List.set_cons_zero, List.set_cons_succ])
    refine wpE_all (rs := [10]) (by kernel_rfl) (by simp) ?_
    refine AllE.cons rfl (fun K hK => ?_) AllE.nil
    simp only [List.getElem_toArray, List.getElem_cons_succ, List.getElem_cons_zero]
    refine step_mapU (m := .tmp 18) (k := .tmp 20) (x := .tmp 27) RUN2.out rfl rfl rfl rfl rfl ?_
    refine hK.out _ _ ⟨fun h => absurd h (by simp), trivial⟩ (fun _ => ?_)
    clear hK K
    (try simp only [Act.put])
    refine wpE_done (by kernel_rfl) ?_ _
    go_wp2_with fail
    go_roundw
    case rel => exact HREL.out
    case measure => simp only [toM]; omega
end Go.Proofs.YtdbnddmncbjobaaGreatDoor

/- book.Strike at an entry whose section is frozen: walked. -/
namespace Go.Proofs.YtdbnddmncbjobaaGreatDoor
open Go Go.RowKit

theorem idxI_some {β : Type} (p : β → Bool) : ∀ xs : List β, 0 ≤ idxI p xs → ∃ (i : Nat) (x : β), idxI p xs = (i : Int) ∧ xs[i]? = some x ∧ p x = true := by
  intro xs
  induction xs with
  | nil => intro h; simp [idxI] at h
  | cons a r ih =>
    intro h
    rw [idxI] at h ⊢
    by_cases ha : p a = true
    · rw [if_pos ha]; exact ⟨0, a, rfl, rfl, ha⟩
    · rw [if_neg ha] at h ⊢
      cases hq : idxI p r with
      | ofNat k =>
        obtain ⟨i, x, h1, h2, h3⟩ := ih (by rw [hq]; exact Int.natCast_nonneg k)
        rw [hq] at h1
        have hk : k = i := by have h1' : (k : Int) = (i : Int) := h1; omega
        subst hk
        exact ⟨k + 1, x, by simp, by simpa using h2, h3⟩
      | negSucc k => rw [hq] at h; simp at h
end Go.Proofs.YtdbnddmncbjobaaGreatDoor

/- book.Text: walked. -/
namespace Go.Proofs.YtdbnddmncbjobaaGreatDoor
open Go Go.RowKit
attribute [local go_sem] Oper.semAt_some

theorem find_idx {α : Type} (p : α → Bool) : ∀ xs : List α, xs.find? p = if 0 ≤ idxI p xs then xs[(idxI p xs).toNat]? else none
  | [] => rfl
  | x :: r => by
    have ih := find_idx p r
    rw [List.find?_cons, idxI]
    cases hp : p x with
    | true => simp
    | false =>
      simp only [Bool.false_eq_true, if_false]
      rw [ih]
      cases hi : idxI p r with
      | ofNat i =>
        have h1 : (0 : Int) ≤ Int.ofNat i := Int.natCast_nonneg i
        have h2 : (0 : Int) ≤ (i : Int) + 1 := by omega
        simp only [if_pos h1]
        rw [if_pos h2, show ((i : Int) + 1).toNat = i + 1 by omega]
        rfl
      | negSucc i =>
        rw [if_neg (by omega)]
        exact (if_neg (show ¬ (0 : Int) ≤ -1 by omega)).symm
theorem zip_idx (v : Int) : ∀ (vs : List Int) (ts : List Tx), vs.length = ts.length → ((vs.zip ts).find? fun q => q.1 == v).map (·.2) = if 0 ≤ idxI (fun u => u == v) vs then ts[(idxI (fun u => u == v) vs).toNat]? else none
  | [], _, _ => rfl
  | _ :: _, [], h => by simp at h
  | a :: vs, t :: ts, h => by
    have ih := zip_idx v vs ts (by simpa using h)
    rw [List.zip_cons_cons, List.find?_cons, idxI]
    cases hp : a == v with
    | true => simp
    | false =>
      simp only [Bool.false_eq_true, if_false]
      rw [ih]
      cases hi : idxI (fun u => u == v) vs with
      | ofNat i =>
        have h1 : (0 : Int) ≤ Int.ofNat i := Int.natCast_nonneg i
        have h2 : (0 : Int) ≤ (i : Int) + 1 := by omega
        simp only [if_pos h1]
        rw [if_pos h2, show ((i : Int) + 1).toNat = i + 1 by omega]
        rfl
      | negSucc i =>
        rw [if_neg (by omega)]
        exact (if_neg (show ¬ (0 : Int) ≤ -1 by omega)).symm
theorem textB_cases (b : Bk) (hv : ∀ x ∈ b.secs, x.vers.length = x.texts.length) (e v : Int) :
    (idxI (fun x => x.ent == e) b.secs < 0 ∧ textB b e v = none) ∨ ∃ (i : Nat) (x : Se), idxI (fun x => x.ent == e) b.secs = i ∧ b.secs[i]? = some x ∧
      ((idxI (fun u => u == v) x.vers < 0 ∧ textB b e v = none) ∨ ∃ (k : Nat) (t : Tx), idxI (fun u => u == v) x.vers = k ∧ x.vers[k]? = some v ∧ x.texts[k]? = some t ∧ textB b e v = some t) := by
  unfold textB
  rw [find_idx]
  by_cases h0 : 0 ≤ idxI (fun x => x.ent == e) b.secs
  · obtain ⟨i, x, hi, hx, _⟩ := idxI_some _ _ h0
    refine .inr ⟨i, x, hi, hx, ?_⟩
    rw [if_pos h0, hi, Int.toNat_natCast, hx, Option.bind_some, zip_idx v x.vers x.texts (hv x (List.mem_of_getElem? hx))]
    by_cases h1 : 0 ≤ idxI (fun u => u == v) x.vers
    · obtain ⟨k, u, hk, hu, huv⟩ := idxI_some _ _ h1
      have : u = v := by simpa using huv
      subst this
      obtain ⟨t, ht⟩ : ∃ t, x.texts[k]? = some t := ⟨_, List.getElem?_eq_getElem (by rw [← hv x (List.mem_of_getElem? hx)]; exact (List.getElem?_eq_some_iff.1 hu).1)⟩
      refine .inr ⟨k, t, hk, hu, ht, ?_⟩
      rw [if_pos h1, hk, Int.toNat_natCast, ht]
    · exact .inl ⟨by omega, by rw [if_neg h1]⟩
  · exact .inl ⟨by omega, by rw [if_neg h0]; rfl⟩
/-- A text, or none. -/
def TxGet (R : Nat → Prop) (w : World) (o : Option Tx) (e : Ending) (w' : World) : Prop := ∃ A n c A' n' c', e = .returned (.tuple #[.agg #[.slice A n c, .slice A' n' c'], .bool o.isSome]) ∧ n ≤ c ∧ n' ≤ c' ∧ kWs.row w' R A n (o.getD ⟨[], []⟩).paras ∧ kWs.row w' R A' n' (o.getD ⟨[], []⟩).notes ∧ Ext w w'
theorem TxGet.no {R : Nat → Prop} {w w' : World} (hx : Ext w w') : TxGet R w none (.returned (.tuple #[.agg #[.slice none 0 0, .slice none 0 0], .bool false])) w' :=
  ⟨none, 0, 0, none, 0, 0, rfl, Nat.le_refl _, Nat.le_refl _, Lay.row_nil _ _ _, Lay.row_nil _ _ _, hx⟩
structure TbxB (z : Nat) (u v : Value) (W : World) : Prop where
  b : W.heap[z]? = some (.cells #[u, v] 53 (0, 0))
theorem TbxB.set {z : Nat} {a b : Value} {W w : World} (h : TbxB z a b W) (hw : w.heap.size ≤ z) (hx : Ext w W) (u v : Value) :
    TbxB z u v ((W.setCell ⟨z, 0, none⟩ u).setCell ⟨z, 1, none⟩ v) ∧ Ext w ((W.setCell ⟨z, 0, none⟩ u).setCell ⟨z, 1, none⟩ v) ∧ ∀ j, j ≠ z → ((W.setCell ⟨z, 0, none⟩ u).setCell ⟨z, 1, none⟩ v).heap[j]? = W.heap[j]? :=
  ⟨⟨heap_setCell_same _ z 1 _ 53 _ (heap_setCell_same _ z 0 _ 53 _ h.b)⟩, (hx.setCell (p := ⟨z, 0, none⟩) hw _).setCell (p := ⟨z, 1, none⟩) hw _, fun j hj => by
    rw [heap_setCell_other _ ⟨z, 1, none⟩ j _ hj, heap_setCell_other _ ⟨z, 0, none⟩ j _ hj]⟩
set_option maxHeartbeats 4000000 in
set_option maxRecDepth 100000 in
theorem btext_any (P : Nat → Prop) (w : World) (b : Bk) (e v : Int) (A : Option Addr) (N c : Nat) (hr : kSe.row w P A N b.secs) (hs : BkS b.secs) (hv : ∀ x ∈ b.secs, x.vers.length = x.texts.length) :
    Calls Tryz.prog 52 #[.agg #[.int .i64 b.ms, .int .i64 b.ht, .slice A N c], .int .i64 e, .int .i64 v] w (TxGet (fun j => w.heap.size ≤ j) w (textB b e v)) := by
  obtain ⟨z, hz⟩ : ∃ z, w.heap.size = z := ⟨_, rfl⟩
  obtain ⟨w0, hw0⟩ : ∃ w0, (w.alloc (.cells #[.int .i64 b.ms, .int .i64 b.ht, .slice A N c] 27)).alloc (.cells #[.slice none 0 0, .slice none 0 0] 53) = w0 := ⟨_, rfl⟩
  have hx0 : Ext w w0 := by rw [← hw0]; exact ((Ext.refl w).alloc _).alloc _
  have hB0 : w0.heap[z]? = some (.cells #[.int .i64 b.ms, .int .i64 b.ht, .slice A N c] 27 (0, 0)) := by
    rw [← hw0, ← hz, heap_alloc_old _ _ _ (by simp)]; exact heap_alloc_new _ _
  have hB1 : TbxB (z + 1) (.slice none 0 0) (.slice none 0 0) w0 := ⟨by rw [← hw0, ← hz]; exact heap_alloc_at _ _ _ _ (by simp)⟩
  have HX0 := Lib.hid hx0
  have HZ := Lib.hid hz
  have HB0 := Lib.hid hB0
  have HB1 := Lib.hid hB1
  have HBS := Lib.hid hs
  have HNN := Lib.hid (show N ≤ 1000000 by rw [Lay.row_len hr]; exact hs.n)
  have HR := Lib.hid (fun X (hX : Ext w0 X) => Lay.row_ext (Lay.row_ext hr hx0) hX)
  have HFI := Lib.hid (find_any P w0 b.ms b.ht e b.secs A N c (Lay.row_ext hr hx0) (by rw [Lay.row_len hr]; exact hs.n))
  have a0 := cell_of hB0 (i := 0) rfl
  have a1 := cell_of hB0 (i := 1) rfl
  have a2 := cell_of hB0 (i := 2) rfl
  have HCA := Lib.hid (textB_cases b hv e v)
  obtain ⟨o, ho⟩ : ∃ o, textB b e v = o := ⟨_, rfl⟩
  rw [ho] at HCA ⊢
  clear hr hs hv hx0 hB0 hB1 ho
  go_enter Tryz.func52, Tryz.ntmps52
  go_upto_region 1 with (fail)
  clear hw0 hz
  rcases HCA.out with ⟨hi, rfl⟩ | ⟨i, x, hi, hx, hk⟩
  · obtain ⟨q, hq⟩ : ∃ q, idxI (fun x => x.ent == e) b.secs = q := ⟨_, rfl⟩
    rw [hq] at HFI hi
    clear hq HCA
    go_upto_region 3 with (first | (go_at_call 81; refine (HFI.out).mono ?_; rintro r w2 ⟨rfl, hx2⟩; have HX2 := Lib.hid hx2; clear hx2))
    have HT2 := Lib.hid (show TbxB (z + 1) (.slice none 0 0) (.slice none 0 0) w2 from ⟨(HX2.out.block _ (lt_of_block HB1.out.b)).trans HB1.out.b⟩)
    have f0 := frozen_of HT2.out.b 0
    have f1 := frozen_of HT2.out.b 1
    have e0 := cell_of HT2.out.b (i := 0) rfl
    have e1 := cell_of HT2.out.b (i := 1) rfl
    go_wp2_with fail
    obtain ⟨Y, hY⟩ : ∃ Y, (w2.setCell ⟨z + 1, 0, none⟩ (.slice none 0 0)).setCell ⟨z + 1, 1, none⟩ (.slice none 0 0) = Y := ⟨_, rfl⟩
    obtain ⟨g1, g2, _⟩ := HT2.out.set (w := w) (by have := HZ.out; omega) (HX0.out.trans HX2.out) (.slice none 0 0) (.slice none 0 0)
    rw [hY] at g1 g2 ⊢
    have q0 := cell_of g1.b (i := 0) rfl
    have q1 := cell_of g1.b (i := 1) rfl
    refine bodyPost_ret (v := .tuple #[.agg #[.slice none 0 0, .slice none 0 0], .bool false]) (by simp [results, Tryz.results52, go_sem, q0, q1]) rfl ?_
    exact TxGet.no g2
  rw [hi] at HFI
  have hiN : (i : Int) < (N : Int) := by have := (List.getElem?_eq_some_iff.1 hx).1; have := Lay.row_len (HR.out w0 (Ext.refl _)); omega
  have hi0 : ¬ ((i : Int) < 0) := by omega
  have HXI := Lib.hid hx
  have HKC := Lib.hid hk
  clear hi hx hk HCA
  go_upto_region 4 with (first | (go_at_call 81; refine (HFI.out).mono ?_; rintro r w2 ⟨rfl, hx2⟩; have HX2 := Lib.hid hx2; clear hx2))
  obtain ⟨bs, os, cs, rfl, hbs, _, hrep, hcs⟩ := Lay.row_at (HR.out w2 HX2.out) HXI.out
  obtain ⟨A1, n1, c1, A2, n2, c2, rfl, hn1, hn2, rv, rt⟩ := kSe_rep.1 hrep
  have s2 := hcs 2 _ rfl
  have s3 := hcs 3 _ rfl
  rw [kSe_sz] at s2 s3
  have HSC := Lib.hid (fun X (hX : Ext w2 X) => (show X.cell? ⟨bs, os + i * 4 + 2, none⟩ = some (.slice A1 n1 c1) ∧ X.cell? ⟨bs, os + i * 4 + 3, none⟩ = some (.slice A2 n2 c2) ∧ X.cell? ⟨z, 2, none⟩ = some (.slice (some ⟨bs, os, none⟩) N c) from
    ⟨(hX.cells.1 bs _ hbs).trans s2, (hX.cells.1 bs _ hbs).trans s3, cell_of (((HX2.out.trans hX).block _ (lt_of_block HB0.out)).trans HB0.out) (i := 2) rfl⟩))
  have HRT := Lib.hid (fun X (hX : Ext w2 X) => Lay.row_ext rt hX)
  have hxm := List.mem_of_getElem? HXI.out
  have HIX := Lib.hid (index_int P w2 A1 n1 c1 x.vers v rv (by rw [Lay.row_len rv]; exact HBS.out.nv x hxm))
  have hn2l := Lay.row_len rt
  clear s2 s3 rv rt hrep hcs a0 a1 a2
  obtain ⟨s2, s3, a2⟩ := HSC.out w2 (Ext.refl _)
  have HT2 := Lib.hid (fun X (hX : Ext w2 X) => (show TbxB (z + 1) (.slice none 0 0) (.slice none 0 0) X from ⟨((HX2.out.trans hX).block _ (lt_of_block HB1.out.b)).trans HB1.out.b⟩))
  rcases HKC.out with ⟨hk, rfl⟩ | ⟨k, t, hk, hkv, hkt, rfl⟩
  · obtain ⟨q, hq⟩ : ∃ q, idxI (fun u => u == v) x.vers = q := ⟨_, rfl⟩
    rw [hq] at HIX hk
    clear hq HKC
    go_upto_region 6 with (first | (go_at_call 107; refine (HIX.out).mono ?_; rintro r w3 ⟨rfl, rfl⟩))
    have hT2 := HT2.out w2 (Ext.refl _)
    have f0 := frozen_of hT2.b 0
    have f1 := frozen_of hT2.b 1
    have e0 := cell_of hT2.b (i := 0) rfl
    have e1 := cell_of hT2.b (i := 1) rfl
    go_wp2_with fail
    obtain ⟨Y, hY⟩ : ∃ Y, (w2.setCell ⟨z + 1, 0, none⟩ (.slice none 0 0)).setCell ⟨z + 1, 1, none⟩ (.slice none 0 0) = Y := ⟨_, rfl⟩
    obtain ⟨g1, g2, _⟩ := hT2.set (w := w) (by have := HZ.out; omega) (HX0.out.trans HX2.out) (.slice none 0 0) (.slice none 0 0)
    rw [hY] at g1 g2 ⊢
    have q0 := cell_of g1.b (i := 0) rfl
    have q1 := cell_of g1.b (i := 1) rfl
    refine bodyPost_ret (v := .tuple #[.agg #[.slice none 0 0, .slice none 0 0], .bool false]) (by simp [results, Tryz.results52, go_sem, q0, q1]) rfl ?_
    exact TxGet.no g2
  rw [hk] at HIX
  have hkn : (k : Int) < (n2 : Int) := by have := (List.getElem?_eq_some_iff.1 hkt).1; omega
  have hk0 : ¬ ((k : Int) < 0) := by omega
  have HKT := Lib.hid hkt
  clear hk hkv hkt HKC
  go_upto_region 7 with (first | (go_at_call 107; refine (HIX.out).mono ?_; rintro r w3 ⟨rfl, rfl⟩))
  obtain ⟨bt, ot, ct, rfl, hbt, _, hrept, hct⟩ := Lay.row_at (HRT.out w2 (Ext.refl _)) HKT.out
  obtain ⟨A5, n5, c5, A6, n6, c6, rfl, hn5, hn6, r5, r6⟩ := kTx_rep.1 hrept
  have t0 := hct 0 _ rfl
  have t1 := hct 1 _ rfl
  rw [kTx_sz] at t0 t1
  rw [Nat.add_zero] at t0
  have hts := HBS.out.tx x hxm t (List.mem_of_getElem? HKT.out)
  have HTX := Lib.hid (text_any P w2 t A5 A6 n5 n6 c5 c6 r5 r6 (by rw [Lay.row_len r5]; exact hts.np) (by rw [Lay.row_len r6]; exact hts.nn) hts.len)
  clear r5 r6 hrept hct hts hxm
  go_wp2_with (first | (go_at_call 84; refine (HTX.out).mono ?_; rintro r w4 ⟨val, rfl, hval, hx4⟩; obtain ⟨A7, n7, c7, A8, n8, c8, rfl, hn7, hn8, r7, r8⟩ := hval; have HX4 := Lib.hid hx4; have HR7 := Lib.hid r7; have HR8 := Lib.hid r8; have hT4 := HT2.out w4 hx4; have f0 := frozen_of hT4.b 0; have f1 := frozen_of hT4.b 1; have e0 := cell_of hT4.b (i := 0) rfl; have e1 := cell_of hT4.b (i := 1) rfl; clear hx4 r7 r8))
  obtain ⟨Y, hY⟩ : ∃ Y, (w4.setCell ⟨z + 1, 0, none⟩ (.slice A7 n7 c7)).setCell ⟨z + 1, 1, none⟩ (.slice A8 n8 c8) = Y := ⟨_, rfl⟩
  obtain ⟨g1, g2, g3⟩ := hT4.set (w := w) (by have := HZ.out; omega) (HX0.out.trans (HX2.out.trans HX4.out)) (.slice A7 n7 c7) (.slice A8 n8 c8)
  have hsz : ((w4.setCell ⟨z + 1, 0, none⟩ (.slice A7 n7 c7)).setCell ⟨z + 1, 1, none⟩ (.slice A8 n8 c8)).heap.size = w4.heap.size := by simp
  rw [hY] at g1 g2 g3 hsz ⊢
  have hzl : z + 1 < w2.heap.size := lt_of_block (HT2.out w2 (Ext.refl _)).b
  have q0 := cell_of g1.b (i := 0) rfl
  have q1 := cell_of g1.b (i := 1) rfl
  refine bodyPost_ret (v := .tuple #[.agg #[.slice A7 n7 c7, .slice A8 n8 c8], .bool true]) (by simp [results, Tryz.results52, go_sem, q0, q1]) rfl ?_
  exact ⟨A7, n7, c7, A8, n8, c8, rfl, hn7, hn8, Lay.row_mono (Lay.row_keep HR7.out (by omega) fun j hj _ => g3 j (by omega)) fun j hj _ => by have := HZ.out; omega, Lay.row_mono (Lay.row_keep HR8.out (by omega) fun j hj _ => g3 j (by omega)) fun j hj _ => by have := HZ.out; omega, g2⟩
end Go.Proofs.YtdbnddmncbjobaaGreatDoor

/- The lines of a generated book's pages are short. -/
namespace Go.Proofs.YtdbnddmncbjobaaGreatDoor
open Go Go.RowKit

theorem notesOf_mem {R : Ln → Prop} {notes : List (List Ln)} (hn : ∀ ls ∈ notes, ∀ l ∈ ls, R l) (x : Ln) : ∀ l ∈ notesOf notes x, R l := by
  intro l hl
  unfold notesOf at hl
  rw [List.mem_flatMap] at hl
  obtain ⟨n, _, h1⟩ := hl
  cases h2 : notes[n.toNat]? with
  | none => rw [h2] at h1; simp at h1
  | some ls => rw [h2] at h1; exact hn ls (List.mem_of_getElem? h2) l h1
theorem fillP_mem {R : Ln → Prop} (h : Int) {notes : List (List Ln)} (hn : ∀ ls ∈ notes, ∀ l ∈ ls, R l) : ∀ (body q : List Ln) (lines : Nat) (shown : Int), (∀ l ∈ q, R l) → ∀ l ∈ (fillP h notes body q lines shown).2.1, R l := by
  intro body
  induction body with
  | nil => intro q lines shown hq l hl; exact hq l hl
  | cons x r ih =>
    intro q lines shown hq l hl
    unfold fillP at hl
    split at hl
    · exact ih _ _ _ (fun y hy => by
        rcases List.mem_append.1 hy with hy | hy
        · exact hq y hy
        · exact notesOf_mem hn x y hy) l hl
    · exact hq l hl
theorem setF_mem {R : Ln → Prop} (h : Int) {notes : List (List Ln)} (hn : ∀ ls ∈ notes, ∀ l ∈ ls, R l) : ∀ (f : Nat) (body q : List Ln), (∀ l ∈ body, R l) → (∀ l ∈ q, R l) → ∀ pg ∈ setF h notes f body q, ∀ l ∈ pg.1 ++ pg.2, R l := by
  intro f
  induction f with
  | zero => intro body q _ _ pg hp; simp [setF] at hp
  | succ f ih =>
    intro body q hb hq pg hp
    unfold setF at hp
    split at hp
    · simp at hp
    · have hm := fillP_mem h hn body q 0 (min (q.length : Int) (h - 1)) hq
      rcases List.mem_cons.1 hp with rfl | hp
      · intro l hl
        rcases List.mem_append.1 hl with hl | hl
        · exact hb l (List.mem_of_mem_take hl)
        · exact hm l (List.mem_of_mem_take hl)
      · exact ih _ _ (fun l hl => hb l (List.mem_of_mem_drop hl)) (fun l hl => hm l (List.mem_of_mem_drop hl)) pg hp
theorem textP_lns {t : Tx} {m h : Int} (hT : TxP t m h) : ∀ pg ∈ (textP t m h).2, ∀ l ∈ pg.1 ++ pg.2, l.gaps.length ≤ 1000000 ∧ l.nts.length ≤ 1000000 := by
  rw [hT.eq]
  unfold setPg
  rw [if_neg (by rw [hT.pg]; simp)]
  have hb : ∀ {L : List Ln}, LnsB L → ∀ l ∈ L, l.gaps.length ≤ 1000000 ∧ l.nts.length ≤ 1000000 := fun hl l h => by have := hl l h; omega
  exact setF_mem h (fun ls hls => hb (hT.lnn ls hls)) _ _ _ (hb hT.lnb) (fun l hl => by simp at hl)
theorem OkB.lns {b : Bk} {N V : Nat} (h : OkB b N V) : ∀ p ∈ pagesB b, (∀ l ∈ p.body, l.gaps.length ≤ 1000000 ∧ l.nts.length ≤ 1000000) ∧ (∀ l ∈ p.nts, l.gaps.length ≤ 1000000 ∧ l.nts.length ≤ 1000000) := by
  intro p hp
  have := pagesS_all (fun x y => ∀ l ∈ x ++ y, l.gaps.length ≤ 1000000 ∧ l.nts.length ≤ 1000000) b.ms b.ht b.secs 0 (fun x hx t ht q hq => textP_lns (txP_of (h.tx x hx t ht) h.m0 h.m1 h.h0 h.h1) q hq) p hp
  exact ⟨fun l hl => this l (List.mem_append_left _ hl), fun l hl => this l (List.mem_append_right _ hl)⟩
end Go.Proofs.YtdbnddmncbjobaaGreatDoor

/- The lines of a generated book's pages: which words they bear; how many hits there are. -/
namespace Go.Proofs.YtdbnddmncbjobaaGreatDoor

def RngL (B : Nat) (x : Ln) : Prop := 0 ≤ x.fr ∧ x.un - x.fr ≤ 40 ∧ x.un ≤ (B : Nat)
theorem linesGo_rng (m : Int) : ∀ (ls : List Nat) (ws : List Wd) (first : Int), ∀ x ∈ linesGo m ws ls first, first ≤ x.fr ∧ x.un ≤ first + (ls.sum : Nat) ∧ x.un - x.fr ≤ (ls.sum : Nat)
  | [], ws, _, x, hx => by cases ws <;> simp [linesGo] at hx
  | l :: ls, ws, first, x, hx => by
    simp only [linesGo] at hx
    rcases List.mem_cons.1 hx with rfl | hx
    · simp only [List.sum_cons]; omega
    · have := linesGo_rng m ls _ _ x hx
      simp only [List.sum_cons]; omega
theorem setP_rng {m : Int} (hm : 500 ≤ m) (ws : List Wd) (first : Int) : ∀ x ∈ setP ws first m, first ≤ x.fr ∧ x.un ≤ first + (ws.length : Nat) ∧ x.un - x.fr ≤ (ws.length : Nat) := fun x hx => by
  have h := (lens_ok hm (wds_of ws)).2
  rw [List.length_map] at h
  have := linesGo_rng m _ ws first x hx
  rw [h] at this
  exact this
theorem setsP_rng {m : Int} (hm : 500 ≤ m) : ∀ (ps : List (List Wd)) (first : Int), (∀ p ∈ ps, p.length ≤ 40) → ∀ l ∈ setsP m ps first, ∀ x ∈ l, first ≤ x.fr ∧ x.un ≤ first + (wordsN ps : Nat) ∧ x.un - x.fr ≤ 40
  | [], _, _, l, hl, _, _ => by simp [setsP] at hl
  | p :: ps, first, hp, l, hl, x, hx => by
    simp only [setsP] at hl
    have hw : wordsN (p :: ps) = p.length + wordsN ps := by simp [wordsN]
    rcases List.mem_cons.1 hl with rfl | hl
    · have h1 := setP_rng hm p first x hx
      have h2 := hp p (.head _)
      rw [hw]; omega
    · have h1 := setsP_rng hm ps _ (fun q hq => hp q (.tail _ hq)) l hl x hx
      rw [hw]; omega
theorem words_le {ps : List (List Wd)} {B : Nat} (h : ∀ p ∈ ps, p.length ≤ B) : wordsN ps ≤ ps.length * B := by
  induction ps with
  | nil => simp [wordsN]
  | cons p ps ih =>
    have h1 := ih fun q hq => h q (.tail _ hq)
    have h2 := h p (.head _)
    have hw : wordsN (p :: ps) = p.length + wordsN ps := by simp [wordsN]
    rw [hw, List.length_cons, Nat.add_mul]; omega
theorem OkT.words {t : Tx} (h : OkT t) : wordsN t.paras ≤ 160 ∧ wordsN (t.paras ++ t.notes) ≤ 200 := by
  have h1 := words_le (B := 40) fun p hp => (h.par.len p hp).2
  have h2 := words_le (B := 12) fun p hp => (h.len p hp).2
  have h3 : wordsN (t.paras ++ t.notes) = wordsN t.paras + wordsN t.notes := by simp [wordsN]
  have := h.np
  have := h.nn
  omega
theorem textP_rng {t : Tx} (ht : OkT t) {m h : Int} (hm : 500 ≤ m) (hm2 : m ≤ 2000) (hh : 4 ≤ h) (hh2 : h ≤ 100) : ∀ pg ∈ (textP t m h).2, ∀ l ∈ pg.1 ++ pg.2, RngL 200 l := by
  have hT := txP_of ht hm hm2 hh hh2
  have hl : linesT t m = (0, (setsP m t.paras 0).flatten, setsP m t.notes (t.paras.map List.length).sum) := by
    unfold linesT
    rw [if_neg (by rw [chkT_ok ht]; simp), if_neg (by omega)]
  obtain ⟨hw1, hw2⟩ := ht.words
  have hw3 : wordsN (t.paras ++ t.notes) = wordsN t.paras + wordsN t.notes := by simp [wordsN]
  have hb : ∀ l ∈ (linesT t m).2.1, RngL 200 l := fun l hl' => by
    rw [hl] at hl'
    obtain ⟨ls, hls, hx⟩ := List.mem_flatten.1 hl'
    have := setsP_rng hm t.paras 0 (fun p hp => (ht.par.len p hp).2) ls hls l hx
    unfold RngL; omega
  have hn : ∀ ls ∈ (linesT t m).2.2, ∀ l ∈ ls, RngL 200 l := fun ls hls l hl' => by
    rw [hl] at hls
    have := setsP_rng hm t.notes _ (fun p hp => by have := (ht.len p hp).2; omega) ls hls l hl'
    have h9 : (t.paras.map List.length).sum = wordsN t.paras := rfl
    rw [h9] at this
    unfold RngL; omega
  rw [hT.eq]
  unfold setPg
  rw [if_neg (by rw [hT.pg]; simp)]
  exact setF_mem h hn _ _ _ hb (fun l hl => by simp at hl)
theorem OkB.rng {b : Bk} {N V : Nat} (h : OkB b N V) : ∀ p ∈ pagesB b, ∀ l ∈ p.body ++ p.nts, RngL 200 l := fun p hp =>
  pagesS_all (fun x y => ∀ l ∈ x ++ y, RngL 200 l) b.ms b.ht b.secs 0 (fun x hx t ht q hq => textP_rng (h.tx x hx t ht) h.m0 h.m1 h.h0 h.h1 q hq) p hp
/-- How many hits there are. -/
theorem hitW_len (br tb : Int) (ls : List Sea) (t : Tx) (p : Pg) (k : Nat) (n : Int) : (hitW br tb ls t p k n).length ≤ 1 := by
  unfold hitW
  split
  · simp
  · split <;> simp
theorem hitN_len (br tb : Int) (ls : List Sea) (t : Tx) (p : Pg) (k : Nat) (n : Int) : ∀ m : Nat, (hitN br tb ls t p k n m).length ≤ m
  | 0 => by simp [hitN]
  | m + 1 => by
    rw [hitN_succ, List.length_append]
    have := hitN_len br tb ls t p k n m
    have := hitW_len br tb ls t p k (n + (m : Nat))
    omega
theorem hitX_len (br tb : Int) (ls : List Sea) (t : Tx) (p : Pg) (k : Nat) {x : Ln} (h : RngL 200 x) : (hitX br tb ls t p k x).length ≤ 40 := by
  have := hitN_len br tb ls t p k x.fr (x.un - x.fr).toNat
  unfold hitX
  have := h.2.1
  omega
theorem hitL_len (br tb : Int) (ls : List Sea) (t : Tx) (p : Pg) (xs : List Ln) (h : ∀ x ∈ xs, RngL 200 x) : ∀ m : Nat, (hitL br tb ls t p xs m).length ≤ 40 * m
  | 0 => by simp [hitL]
  | m + 1 => by
    have ih := hitL_len br tb ls t p xs h m
    cases hx : xs[m]? with
    | none =>
      have : hitL br tb ls t p xs (m + 1) = hitL br tb ls t p xs m := by
        unfold hitL; rw [List.range_succ, List.flatMap_append]; simp [hx]
      rw [this]; omega
    | some x =>
      rw [hitL_succ br tb ls t p hx, List.length_append]
      have := hitX_len br tb ls t p m (h x (List.mem_of_getElem? hx))
      omega
theorem hitP_len {b : Bk} {N V : Nat} (h : OkB b N V) (br tb : Int) (ls : List Sea) {p : Pg} (hp : p ∈ pagesB b) : (hitP br tb ls b p).length ≤ 4000 := by
  unfold hitP
  split
  · simp
  · next t _ =>
    have h1 := hitL_len br tb ls t p (p.body ++ p.nts) (h.rng p hp) (p.body ++ p.nts).length
    have := h.hgt p hp
    exact Nat.le_trans h1 (by omega)
theorem flat_le {α β : Type} {f : α → List β} {B : Nat} : ∀ {l : List α}, (∀ x ∈ l, (f x).length ≤ B) → (l.flatMap f).length ≤ l.length * B
  | [], _ => by simp
  | x :: l, h => by
    have h1 := flat_le (l := l) fun y hy => h y (.tail _ hy)
    have h2 := h x (.head _)
    rw [List.flatMap_cons, List.length_append, List.length_cons, Nat.add_mul]
    omega
theorem hits_len {b : Bk} {N V : Nat} (h : OkB b N V) (hN : 200 * V * N ≤ 4000) (br tb : Int) (ls : List Sea) : (hits br tb ls b).length ≤ 16000000 := by
  have h1 := flat_le (f := hitP br tb ls b) (l := pagesB b) fun p hp => hitP_len h br tb ls hp
  have h2 := h.np
  unfold hits
  refine Nat.le_trans h1 (Nat.le_trans (Nat.mul_le_mul_right 4000 (Nat.le_trans h2 hN)) (by omega))
theorem hitW_key {t : Tx} (h : OkT t) {br tb : Int} {ls : List Sea} {p : Pg} {k : Nat} {n : Int} : ∀ x ∈ hitW br tb ls t p k n, x.1.length ≤ 1000 := fun ⟨key, c⟩ hx => by
  obtain ⟨w, hw, rfl, _⟩ := mem_hitW.1 hx
  obtain ⟨_, _, q, hq, hwq⟩ := wordT_lt hw
  rcases List.mem_append.1 hq with hq | hq
  · have := (h.par.ok q hq w hwq).2.2.2.2; simp only; omega
  · have := (h.ok q hq w hwq).1.2.2.2.2; simp only; omega
theorem textB_ok {b : Bk} {N V : Nat} (h : OkB b N V) {e v : Int} {t : Tx} (ht : textB b e v = some t) : OkT t := by
  obtain ⟨x, hx, _, k, _, h2⟩ := textB_mem ht
  exact h.tx x hx t (List.mem_of_getElem? h2)
theorem hits_key {b : Bk} {N V : Nat} (h : OkB b N V) {br tb : Int} {ls : List Sea} : ∀ x ∈ hits br tb ls b, x.1.length ≤ 1000 := fun ⟨key, c⟩ hx => by
  obtain ⟨p, hp, t, ht, i, x, hx, n, h2, h3, w, hw, rfl, _⟩ := mem_hits.1 hx
  obtain ⟨_, _, q, hq, hwq⟩ := wordT_lt hw
  have ho := textB_ok h ht
  rcases List.mem_append.1 hq with hq | hq
  · have := (ho.par.ok q hq w hwq).2.2.2.2; simp only; omega
  · have := (ho.ok q hq w hwq).1.2.2.2.2; simp only; omega
end Go.Proofs.YtdbnddmncbjobaaGreatDoor

/- index.Items: walked (printed by genyt.py). -/
namespace Go.Proofs.YtdbnddmncbjobaaGreatDoor
open Go Go.RowKit Go.Maps
attribute [local go_sem] Oper.semAt_some

theorem Kpt.extX {b : Nat} {K : Nat → Prop} {hs : List (List UInt8 × Ct)} {D : DV} {W0 W Y : World} (h : Kpt b K hs D W0 W) (hx : Ext W Y) : Kpt b K hs D W0 Y := h.ext hx.os hx.tape hx.output hx.size hx.block
theorem Kpt.narrowX {b : Nat} {K K' : Nat → Prop} {hs hs' : List (List UInt8 × Ct)} {D D' : DV} {W0 W Y Z : World} (h : Kpt b K hs D W0 W) (hx : Ext W Y) (h' : Kpt b K' hs' D' Y Z) (hK : ∀ j, K j → K' j) : Kpt b K hs' D' W0 Z := h.narrow hx.os hx.tape hx.output hx.size hx.block h' hK
theorem Kpt.base {b : Nat} {K : Nat → Prop} {hs : List (List UInt8 × Ct)} {D : DV} {w W0 W : World} (h : Kpt b K hs D W0 W) (hw : Ext w W0) (hK : ∀ j, j < w.heap.size → K j) : Ext w W :=
  ⟨h.os.trans hw.os, h.tape.trans hw.tape, h.output.trans hw.output, Nat.le_trans hw.size h.size, fun j hj => (h.block j (hK j hj)).trans (hw.block j hj)⟩
theorem Kpt.cell {b : Nat} {K : Nat → Prop} {hs : List (List UInt8 × Ct)} {D : DV} {W0 W : World} (h : Kpt b K hs D W0 W) {j : Nat} (hj : K j) {o : Nat} {v : Value} (hc : W0.cell? ⟨j, o, none⟩ = some v) : W.cell? ⟨j, o, none⟩ = some v := by
  unfold World.cell? at hc ⊢
  rw [h.block j hj]
  exact hc
/-- The hits of the first i pages. -/
def hsI (br tb : Int) (ls : List Sea) (b : Bk) (i : Nat) : List (List UInt8 × Ct) := ((pagesB b).take i).flatMap (hitP br tb ls b)
theorem hsI_len {b : Bk} {N V : Nat} (h : OkB b N V) (hN : 200 * V * N ≤ 4000) (br tb : Int) (ls : List Sea) (i : Nat) : (hsI br tb ls b i).length ≤ 16000000 := by
  have h1 := flat_le (f := hitP br tb ls b) (l := (pagesB b).take i) fun p hp => hitP_len h br tb ls (List.mem_of_mem_take hp)
  have h2 := h.np
  have h3 : ((pagesB b).take i).length ≤ 4000 := by rw [List.length_take]; omega
  unfold hsI
  exact Nat.le_trans h1 (Nat.le_trans (Nat.mul_le_mul_right 4000 h3) (by omega))
theorem hsI_succ (br tb : Int) (ls : List Sea) (b : Bk) {i : Nat} {p : Pg} (h : (pagesB b)[i]? = some p) : hsI br tb ls b (i + 1) = hsI br tb ls b i ++ hitP br tb ls b p := hits_take br tb ls b h
/-- One place, in a new row. -/
theorem ct_new (X : World) (c : Ct) : kCt.row (X.alloc (.cells #[.int .i64 c.br, .int .i64 c.nu, .int .i64 c.su, .int .i64 c.li] 69)) (fun j => False ∨ X.heap.size ≤ j) (some ⟨X.heap.size, 0, none⟩) 1 [c] :=
  (own_rowQ (own_new (k := kCt) (X := X) (base := X.heap.size) (P := fun _ => False) (x := c) (cs := #[.int .i64 c.br, .int .i64 c.nu, .int .i64 c.su, .int .i64 c.li]) (e := 69) (Nat.le_refl _) (kCt_rep.2 rfl))).2
def ItA (br tb : Int) (ls : List Sea) (b : Bk) (b0 B np : Nat) (K : Nat → Prop) (w2 : World) (s23 : Value) (W : World) : Prop :=
  ∃ (i : Nat) (D : DV), i ≤ np ∧ s23 = .int .i64 i ∧ GMap B b0 (hsI br tb ls b i).length (hsI br tb ls b i) D W ∧ Kpt b0 K (hsI br tb ls b i) D w2 W
def ItB (br tb : Int) (ls : List Sea) (t : Tx) (p : Pg) (xs : List Ln) (hs : List (List UInt8 × Ct)) (b0 B : Nat) (K : Nat → Prop) (w6 : World) (s45 : Value) (W : World) : Prop :=
  ∃ (k : Nat) (D : DV), k ≤ xs.length ∧ s45 = .int .i64 k ∧ GMap B b0 (hs ++ hitL br tb ls t p xs k).length (hs ++ hitL br tb ls t p xs k) D W ∧ Kpt b0 K (hs ++ hitL br tb ls t p xs k) D w6 W
def ItN (br tb : Int) (ls : List Sea) (t : Tx) (p : Pg) (k : Nat) (fr un : Int) (hs : List (List UInt8 × Ct)) (b0 B : Nat) (K : Nat → Prop) (w7 : World) (s16 : Value) (W : World) : Prop :=
  ∃ (m : Nat) (D : DV), m ≤ (un - fr).toNat ∧ s16 = .int .i64 (fr + (m : Nat)) ∧ GMap B b0 (hs ++ hitN br tb ls t p k fr m).length (hs ++ hitN br tb ls t p k fr m) D W ∧ Kpt b0 K (hs ++ hitN br tb ls t p k fr m) D w7 W
def itM (un : Int) (s16 : Value) : Nat := match s16 with | .int _ z => (un - z).toNat | _ => 0
set_option maxHeartbeats 4000000 in
set_option maxRecDepth 100000 in
theorem iitems_any (P Q : Nat → Prop) (w : World) (b : Bk) (N V : Nat) (br tb : Int) (ls : List Sea) (A A2 : Option Addr) (Nn c n2 c2 : Nat) (hok : OkB b N V) (hN : N ≤ 1000) (hV : V ≤ 1000) (hNV : 200 * V * N ≤ 4000) (hr : kSe.row w P A Nn b.secs) (hsl : kSea.row w Q A2 n2 ls) (hn2 : n2 ≤ 1000000) (hgr : ∀ s ∈ ls, 0 ≤ s.gr ∧ s.gr ≤ 15) (hL : EnvW w) :
    Calls Tryz.prog 19 #[.agg #[.int .i64 b.ms, .int .i64 b.ht, .slice A Nn c], .int .i64 br, .int .i64 tb, .slice A2 n2 c2] w fun e w' => ∃ A1 n1 c1, e = .returned (.slice A1 n1 c1) ∧ TbH w' A1 n1 c1 (hits br tb ls b) ∧ Ext w w' := by
  have hmm := @run_makeMap Tryz.prog
  have hbi := hok.bkI hN (by omega) hV
  have HOK := Lib.hid hok
  have HBI := Lib.hid hbi
  have HLEN := Lib.hid (fun i => hsI_len hok hNV br tb ls i)
  obtain ⟨z, hz⟩ : ∃ z, w.heap.size = z := ⟨_, rfl⟩
  obtain ⟨w0, hw0⟩ : ∃ w0, w.alloc (.cells #[.int .i64 b.ms, .int .i64 b.ht, .slice A Nn c] 27) = w0 := ⟨_, rfl⟩
  have hx0 : Ext w w0 := by rw [← hw0]; exact (Ext.refl w).alloc _
  have hB0 : w0.heap[z]? = some (.cells #[.int .i64 b.ms, .int .i64 b.ht, .slice A Nn c] 27 (0, 0)) := by rw [← hw0, ← hz]; exact heap_alloc_new _ _
  have hs0 : w0.heap.size = z + 1 := by rw [← hw0, ← hz]; simp
  obtain ⟨w1, hw1⟩ : ∃ w1, w0.alloc (.map #[] 0) = w1 := ⟨_, rfl⟩
  have hx1 : Ext w0 w1 := by rw [← hw1]; exact (Ext.refl w0).alloc _
  have hg1 : GMap (z + 1 + 1) (z + 1) 0 [] (.map []) w1 := by rw [← hw1, ← hs0]; exact GMap.made w0
  have hs1 : w1.heap.size = z + 2 := by rw [← hw1]; simp [hs0]
  have hB1 := (hx1.block _ (lt_of_block hB0)).trans hB0
  have a0 := cell_of hB1 (i := 0) rfl
  have a1 := cell_of hB1 (i := 1) rfl
  have a2 := cell_of hB1 (i := 2) rfl
  have HPG := Lib.hid (pages_any P w1 b A Nn c hbi (Lay.row_ext hr (hx0.trans hx1)) (hL.ext (hx0.trans hx1)))
  have HR := Lib.hid (show kSe.row w (fun j => j < w.heap.size) A Nn b.secs from Lay.row_mono hr fun j _ hj => hj)
  have HSL := Lib.hid (show kSea.row w (fun j => j < w.heap.size) A2 n2 ls from Lay.row_mono hsl fun j _ hj => hj)
  have HX0 := Lib.hid hx0
  have HX1 := Lib.hid hx1
  have HG1 := Lib.hid hg1
  have HS1' := Lib.hid hs1
  have HB1 := Lib.hid hB1
  have HZ := Lib.hid hz
  clear hr hsl hL hx0 hB0 hx1 hg1 hs1 hB1 hbi hok
  go_enter Tryz.func19, Tryz.ntmps19
  go_wp2_with (first | (go_at_call 55; refine (HPG.out).mono ?_; rintro e w2 ⟨Ap, np, cp, rfl, hnp1, hnp2, hrp, hx2⟩; have HRP := Lib.hid hrp; have HX2 := Lib.hid hx2; clear hrp hx2))
  clear hw0 hw1 hz hs0 a0 a1 a2 HPG
  obtain ⟨B, hB⟩ : ∃ B, w2.heap.size = B := ⟨_, rfl⟩
  obtain ⟨b0, hb0⟩ : ∃ b0, z + 1 = b0 := ⟨_, rfl⟩
  rw [hb0] at HG1 ⊢
  have hBb : b0 + 1 ≤ B := by have := HX2.out.lt; have := HS1'.out; omega
  have HBB := Lib.hid (show z < b0 ∧ b0 < B ∧ w2.heap.size = B ∧ w.heap.size = z ∧ w1.heap.size = b0 + 1 ∧ z + 1 = b0 from ⟨by omega, by omega, hB, HZ.out, by have := HS1'.out; omega, hb0⟩)
  have HXW2 := Lib.hid (HX0.out.trans (HX1.out.trans HX2.out))
  obtain ⟨K1, hK1⟩ : ∃ K1 : Nat → Prop, (fun j => j < B ∧ j ≠ b0) = K1 := ⟨_, rfl⟩
  have HK1 := Lib.hid (show ∀ j, K1 j ↔ j < B ∧ j ≠ b0 from fun j => by rw [← hK1])
  have HPR := Lib.hid (show kPg.row w2 K1 Ap np (pagesB b) from Lay.row_mono HRP.out fun j hj hjl => (HK1.out j).2 (by have := HBB.out; omega))
  have HZB := Lib.hid ((HX2.out.block _ (lt_of_block HB1.out)).trans HB1.out)
  have HNP := Lib.hid (Lay.row_len HRP.out)
  have HG2 := Lib.hid (show GMap B b0 0 [] (.map []) w2 from (HG1.out.keep HX2.out.grown).raise (by have := HBB.out; omega))
  have HKP2 := Lib.hid (show Kpt b0 K1 [] (.map []) w2 w2 from Kpt.start (fun k v hc => absurd rfl hc) (fun h9 => ((HK1.out b0).1 h9).2 rfl) fun j hj => by have := ((HK1.out j).1 hj).1; omega)
  clear hBb hb0 hB hK1 HRP HB1 HG1
  go_loopw [11, 12, 13, 14, 15, 16, 17, 18, 23] (fun _ _ _ _ _ _ _ _ s23 W => ItA br tb ls b b0 B np K1 w2 s23 W) (fun _ _ _ _ _ _ _ _ s23 _ => toM np s23)
  case atStart => exact ⟨0, .map [], by omega, rfl, HG2.out, HKP2.out⟩
  case round =>
    obtain ⟨i, D, hi, rfl, hgm, hkp⟩ := hrel
    have HGM := Lib.hid hgm
    have HKP := Lib.hid hkp
    have HEX := Lib.hid (show Ext w wr from hkp.base HXW2.out fun j hj => (HK1.out j).2 (by have := HBB.out; omega))
    have HSZ := Lib.hid (show B ≤ wr.heap.size by have := hkp.size; have := HBB.out; omega)
    clear hgm hkp
    have hwi : IntKind.i64.wrap ((i : Int) + 1) = (i : Int) + 1 := IntWalk.i64_in _ (by omega)
    by_cases hlt : i < np
    case neg =>
      have hni : ¬ ((i : Int) < (np : Int)) := by omega
      have hti : hsI br tb ls b i = hits br tb ls b := by
        unfold hsI hits
        rw [List.take_of_length_le (by rw [← HNP.out]; omega)]
      have hl9 := HLEN.out i
      have hgm9 := HGM.out
      rw [hti] at hgm9 hl9
      have HIT := Lib.hid (items_any wr B b0 _ (hits br tb ls b) D hgm9 HSZ.out (by omega) (hits_key HOK.out))
      clear hgm9 hti hl9
      go_wp2_with (first | (go_at_call 57; refine (HIT.out).mono ?_; rintro e w5 ⟨A5, m5, c5, rfl, hT5, hb5⟩; have HT5 := Lib.hid hT5; have HB5 := Lib.hid hb5; clear hT5 hb5))
      go_ret
      refine ⟨A5, m5, c5, rfl, HT5.out, ?_⟩
      have h1 := HB5.out
      have h3 := HEX.out
      exact ⟨h1.os.trans h3.os, h1.tape.trans h3.tape, h1.output.trans h3.output, Nat.le_trans h3.size h1.size, fun j hj => (h1.block j (by have := HBB.out; omega)).trans (h3.block j hj)⟩
    have hI : (i : Int) < (np : Int) := by omega
    obtain ⟨p, hp⟩ : ∃ p, (pagesB b)[i]? = some p := ⟨_, List.getElem?_eq_getElem (by rw [← HNP.out]; exact hlt)⟩
    have hpm := List.mem_of_getElem? hp
    have hrw : kPg.row wr K1 Ap np (pagesB b) := Lay.row_keep HPR.out HKP.out.size fun j hj _ => HKP.out.block j hj
    obtain ⟨gb, off, cs, rfl, hgbl, _, hrep, hcs⟩ := Lay.row_at hrw hp
    obtain ⟨A7, n7, c7, A8, n8, c8, rfl, hn7, hn8, r7, r8⟩ := kPg_rep.1 hrep
    have y0 := fun o => (((Ext.refl wr).alloc o).cells.1 gb _ hgbl).trans (hcs 0 _ rfl)
    have y1 := fun o => (((Ext.refl wr).alloc o).cells.1 gb _ hgbl).trans (hcs 1 _ rfl)
    have y2 := fun o => (((Ext.refl wr).alloc o).cells.1 gb _ hgbl).trans (hcs 2 _ rfl)
    have y3 := fun o => (((Ext.refl wr).alloc o).cells.1 gb _ hgbl).trans (hcs 3 _ rfl)
    have y4 := fun o => (((Ext.refl wr).alloc o).cells.1 gb _ hgbl).trans (hcs 4 _ rfl)
    have y5 := fun o => (((Ext.refl wr).alloc o).cells.1 gb _ hgbl).trans (hcs 5 _ rfl)
    have x0 := hcs 0 _ rfl
    have x1 := hcs 1 _ rfl
    have x2 := hcs 2 _ rfl
    have x3 := hcs 3 _ rfl
    have x4 := hcs 4 _ rfl
    have x5 := hcs 5 _ rfl
    rw [kPg_sz] at x0 x1 x2 x3 x4 x5
    rw [Nat.add_zero] at x0
    simp only [kPg_sz, Nat.add_zero] at y0 y1 y2 y3 y4 y5
    obtain ⟨z11, hz11⟩ : ∃ z11, wr.heap.size = z11 := ⟨_, rfl⟩
    obtain ⟨w3, hw3⟩ : ∃ w3, wr.alloc (.cells #[.int .i64 p.num, .int .i64 p.suf, .int .i64 p.ent, .int .i64 p.ver, .slice A7 n7 c7, .slice A8 n8 c8] 84) = w3 := ⟨_, rfl⟩
    have hx3 : Ext wr w3 := by rw [← hw3]; exact (Ext.refl wr).alloc _
    have hB3 : w3.heap[z11]? = some (.cells #[.int .i64 p.num, .int .i64 p.suf, .int .i64 p.ent, .int .i64 p.ver, .slice A7 n7 c7, .slice A8 n8 c8] 84 (0, 0)) := by rw [← hw3, ← hz11]; exact heap_alloc_new _ _
    have HB3 := Lib.hid hB3
    have HX3 := Lib.hid hx3
    have hzb : w3.heap[z]? = some (.cells #[.int .i64 b.ms, .int .i64 b.ht, .slice A Nn c] 27 (0, 0)) := (hx3.block z (by have := HBB.out; have := HSZ.out; omega)).trans ((HKP.out.block z ((HK1.out z).2 (by have := HBB.out; omega))).trans HZB.out)
    have a0 := cell_of hzb (i := 0) rfl
    have a1 := cell_of hzb (i := 1) rfl
    have a2 := cell_of hzb (i := 2) rfl
    have e2 := cell_of hB3 (i := 2) rfl
    have e3 := cell_of hB3 (i := 3) rfl
    have HTX := Lib.hid (btext_any _ w3 b p.ent p.ver A Nn c (Lay.row_ext HR.out (HEX.out.trans hx3)) HBI.out.s HBI.out.vs)
    have HR7 := Lib.hid r7
    have HR8 := Lib.hid r8
    have HP := Lib.hid hp
    have HPM := Lib.hid hpm
    have HZ11 := Lib.hid hz11
    clear hrw hrep hcs r7 r8 hp hpm hx3 hB3 hzb
    cases ht : textB b p.ent p.ver with
    | none =>
      have HT := Lib.hid ht
      rw [ht] at HTX
      clear ht
      go_wp2_with (first | (go_at_call 52; refine (HTX.out).mono ?_; rintro e w4 ⟨A5, n5, c5, A6, n6, c6, rfl, hn5, hn6, r5, r6, hx4⟩; have HX4 := Lib.hid hx4; clear r5 r6 hx4; simp only [Option.isSome_none]))
      go_roundw
      case rel =>
        have hx5 := (HX3.out.trans HX4.out).alloc (.cells #[.slice A5 n5 c5, .slice A6 n6 c6] 53)
        have h0 : hsI br tb ls b (i + 1) = hsI br tb ls b i := by
          rw [hsI_succ br tb ls b HP.out]
          unfold hitP
          rw [HT.out]
          simp
        refine ⟨i + 1, D, by omega, by simp, ?_, ?_⟩
        · rw [h0]; exact HGM.out.keep hx5.grown
        · rw [h0]; exact HKP.out.extX hx5
      case measure => simp only [toM]; omega
    | some t =>
      have HT := Lib.hid ht
      rw [ht] at HTX
      clear ht
      go_upto_region 7 with (first | (go_at_call 52; refine (HTX.out).mono ?_; rintro e w4 ⟨A5, n5, c5, A6, n6, c6, rfl, hn5, hn6, r5, r6, hx4⟩; have HX4 := Lib.hid hx4; simp only [Option.getD_some] at r5 r6; have HR5 := Lib.hid r5; have HR6 := Lib.hid r6; clear r5 r6 hx4; simp only [Option.isSome_some]))
      obtain ⟨w5, hw5⟩ : ∃ w5, w4.alloc (.cells #[.slice A5 n5 c5, .slice A6 n6 c6] 53) = w5 := ⟨_, rfl⟩
      obtain ⟨z12, hz12⟩ : ∃ z12, w4.heap.size = z12 := ⟨_, rfl⟩
      have hx5 : Ext w4 w5 := by rw [← hw5]; exact (Ext.refl w4).alloc _
      have hB5 : w5.heap[z12]? = some (.cells #[.slice A5 n5 c5, .slice A6 n6 c6] 53 (0, 0)) := by rw [← hw5, ← hz12]; exact heap_alloc_new _ _
      rw [hw5, hz12]
      have hx35 := HX4.out.trans hx5
      have HX5 := Lib.hid (HX3.out.trans hx35)
      have HB5 := Lib.hid hB5
      have hB35 := (hx35.block _ (lt_of_block HB3.out)).trans HB3.out
      have HR5' := Lib.hid (Lay.row_ext HR5.out hx5)
      have HR6' := Lib.hid (Lay.row_ext HR6.out hx5)
      have HZ12 := Lib.hid (show wr.heap.size ≤ z12 ∧ z12 < w5.heap.size by rw [← hz12]; exact ⟨(HX3.out.trans HX4.out).lt, by rw [hz12]; exact lt_of_block hB5⟩)
      have HZ11' := Lib.hid (show wr.heap.size ≤ z11 ∧ z11 < w5.heap.size by rw [HZ11.out]; exact ⟨Nat.le_refl _, lt_of_block hB35⟩)
      have HB35 := Lib.hid hB35
      have e4 := cell_of hB35 (i := 4) rfl
      have e5 := cell_of hB35 (i := 5) rfl
      have hgt := HOK.out.hgt p HPM.out
      rw [List.length_append] at hgt
      have HCAT := Lib.hid (fun T => cat56 kLn kLn_sz K1 (w5.alloc (.cells #[.slice A7 n7 c7, .slice A8 n8 c8] T)) w5.heap.size A7 A8 n7 n8 c7 c8 p.body p.nts (Lay.row_ext HR7.out (HX5.out.alloc _)) (Lay.row_ext HR8.out (HX5.out.alloc _)) (by rw [Lay.row_len HR7.out]; omega) (by rw [Lay.row_len HR8.out]; omega) (by simp) (cell_of (heap_alloc_new w5 _) (i := 0) rfl) (cell_of (heap_alloc_new w5 _) (i := 1) rfl))
      clear hx5 hB5 hw5 hz12 hx35 hB35 a0 a1 a2 e2 e3 y0 y1 y2 y3 y4 y5 x0 x1 x2 x3 x4 x5 hw3 hz11
      obtain ⟨xs, hxs⟩ : ∃ xs, p.body ++ p.nts = xs := ⟨_, rfl⟩
      rw [hxs] at HCAT
      have hxl : xs.length ≤ 100 := by rw [← hxs, List.length_append]; exact hgt
      have HXS := Lib.hid hxs
      have HRNG := Lib.hid (show ∀ l ∈ xs, RngL 200 l by rw [← hxs]; exact HOK.out.rng p HPM.out)
      clear hxs hgt
      obtain ⟨L, hL⟩ : ∃ L, xs.length = L := ⟨_, rfl⟩
      rw [hL] at hxl
      have HL := Lib.hid hL
      clear hL
      go_wp2_with (first | (go_at_call 56; refine (HCAT.out _).mono ?_; rintro e w6 ⟨A9, c9, rfl, ho9, hx6⟩; have HO9 := Lib.hid ho9; have HX6 := Lib.hid (((Ext.refl w5).alloc _).trans hx6); have HSL9 := Lib.hid hx6.lt; clear ho9 hx6; rw [HL.out] at HO9 ⊢))
      obtain ⟨K2, hK2⟩ : ∃ K2 : Nat → Prop, (fun j => K1 j ∨ (wr.heap.size ≤ j ∧ j < w6.heap.size)) = K2 := ⟨_, rfl⟩
      have HK2 := Lib.hid (show ∀ j, K2 j ↔ K1 j ∨ (wr.heap.size ≤ j ∧ j < w6.heap.size) from fun j => by rw [← hK2])
      have HXR6 := Lib.hid (HX5.out.trans HX6.out)
      have HKP6 := Lib.hid (show Kpt b0 K2 (hsI br tb ls b i) D w6 w6 by rw [← hK2]; exact HKP.out.widen HGM.out HXR6.out.lt)
      have HGM6 := Lib.hid (HGM.out.keep HXR6.out.grown)
      have HLR := Lib.hid (show kLn.row w6 K2 A9 L xs from by
        obtain ⟨A10, c10, e10, _, hr10⟩ := Lay.own_row HO9.out
        have hlt9 := Lay.own_lt HO9.out
        obtain ⟨q1, q2, _⟩ := Value.slice.inj e10
        rw [← q1, ← q2] at hr10
        refine Lay.row_mono hr10 fun j hj hjl => (HK2.out j).2 ?_
        rcases hj with hj | hj
        · exact .inl hj
        · have h8 := (hlt9 j hj).1
          simp at h8
          exact .inr ⟨by have := HX5.out.lt; omega, hjl⟩)
      have HTR5 := Lib.hid (show kWs.row w6 K2 A5 n5 t.paras from Lay.row_ext (Lay.row_mono HR5'.out fun j hj hjl => (HK2.out j).2 (.inr ⟨by have := HX3.out.lt; omega, by have := HX6.out.lt; omega⟩)) HX6.out)
      have HTR6 := Lib.hid (show kWs.row w6 K2 A6 n6 t.notes from Lay.row_ext (Lay.row_mono HR6'.out fun j hj hjl => (HK2.out j).2 (.inr ⟨by have := HX3.out.lt; omega, by have := HX6.out.lt; omega⟩)) HX6.out)
      have HP6 := Lib.hid (show w6.heap[z11]? = some (.cells #[.int .i64 p.num, .int .i64 p.suf, .int .i64 p.ent, .int .i64 p.ver, .slice A7 n7 c7, .slice A8 n8 c8] 84 (0, 0)) ∧ K2 z11 from ⟨(HX6.out.block _ HZ11'.out.2).trans HB35.out, (HK2.out _).2 (.inr ⟨HZ11'.out.1, by have := HX6.out.lt; have := HZ11'.out; omega⟩)⟩)
      have HT6 := Lib.hid (show w6.heap[z12]? = some (.cells #[.slice A5 n5 c5, .slice A6 n6 c6] 53 (0, 0)) ∧ K2 z12 from ⟨(HX6.out.block _ HZ12.out.2).trans HB5.out, (HK2.out _).2 (.inr ⟨HZ12.out.1, by have := HX6.out.lt; have := HZ12.out; omega⟩)⟩)
      have HSE := Lib.hid (show ∀ X : World, w6.heap.size ≤ X.heap.size → (∀ j, K2 j → X.heap[j]? = w6.heap[j]?) → kSea.row X K2 A2 n2 ls from fun X h1 h2 => Lay.row_keep (Lay.row_mono (Lay.row_ext HSL.out (HEX.out.trans HXR6.out)) fun j hj _ => (HK2.out j).2 (.inl ((HK1.out j).2 (by have := HBB.out; omega)))) h1 fun j hj _ => h2 j hj)
      clear hK2 e4 e5 HO9 HCAT HTX HR5 HR6 HR5' HR6' HB5 HB35 HZ11' HZ12 HR7 HR8 HB3 HSL9
      have HHI := Lib.hid (show ∀ D' W, GMap B b0 (hsI br tb ls b i ++ hitL br tb ls t p xs L).length (hsI br tb ls b i ++ hitL br tb ls t p xs L) D' W → Kpt b0 K2 (hsI br tb ls b i ++ hitL br tb ls t p xs L) D' w6 W → ItA br tb ls b b0 B np K1 w2 (.int .i64 ((i : Int) + 1)) W from fun D' W g1 g2 => by
        have h0 : hsI br tb ls b (i + 1) = hsI br tb ls b i ++ hitL br tb ls t p xs L := by
          rw [hsI_succ br tb ls b HP.out]
          unfold hitP
          rw [HT.out, HXS.out]
          simp only
          rw [HL.out]
        exact ⟨i + 1, D', by omega, by simp, by rw [h0]; exact g1, by rw [h0]; exact HKP.out.narrowX HXR6.out g2 fun j hj => (HK2.out j).2 (.inl hj)⟩)
      have hhs := HLEN.out i
      generalize hsI br tb ls b i = hs at HKP HGM HKP6 HGM6 HHI hhs
      go_loopw [14, 15, 16, 17, 18, 45] (fun _ _ _ _ _ s45 W => ItB br tb ls t p xs hs b0 B K2 w6 s45 W) (fun _ _ _ _ _ s45 _ => toM L s45)
      case atStart => exact ⟨0, D, by omega, rfl, by have h9 := HGM6.out; simpa [hitL] using h9, by have h9 := HKP6.out; simpa [hitL] using h9⟩
      case round =>
        obtain ⟨k, D2, hk, rfl, hgm, hkp⟩ := hrel
        rename World => wq
        rw [HL.out] at hk
        have HGM2 := Lib.hid hgm
        have HKP2' := Lib.hid hkp
        clear hgm hkp
        have hwk : IntKind.i64.wrap ((k : Int) + 1) = (k : Int) + 1 := IntWalk.i64_in _ (by omega)
        by_cases hkl : k < L
        case neg =>
          obtain rfl : k = L := by omega
          have hnk : ¬ ((k : Int) < (k : Int)) := by omega
          have HREL := Lib.hid (HHI.out D2 wq HGM2.out HKP2'.out)
          go_wp2_with fail
          go_roundw
          case rel => exact HREL.out
          case measure => simp only [toM]; omega
        have hkI : (k : Int) < (L : Int) := by omega
        obtain ⟨l, hl⟩ : ∃ l, xs[k]? = some l := ⟨_, List.getElem?_eq_getElem (by rw [HL.out]; exact hkl)⟩
        have hrg := HRNG.out l (List.mem_of_getElem? hl)
        have hlr : kLn.row wq K2 A9 L xs := Lay.row_keep HLR.out HKP2'.out.size fun j hj _ => HKP2'.out.block j hj
        obtain ⟨gl, ol, cs, rfl, hgl, _, hrep, hcs⟩ := Lay.row_at hlr hl
        obtain ⟨A3, n3, c3, A4, n4, c4, rfl, _, _, _, _⟩ := kLn_rep.1 hrep
        have y0 := fun o => (((Ext.refl wq).alloc o).cells.1 gl _ hgl).trans (hcs 0 _ rfl)
        have y1 := fun o => (((Ext.refl wq).alloc o).cells.1 gl _ hgl).trans (hcs 1 _ rfl)
        have y2 := fun o => (((Ext.refl wq).alloc o).cells.1 gl _ hgl).trans (hcs 2 _ rfl)
        have y3 := fun o => (((Ext.refl wq).alloc o).cells.1 gl _ hgl).trans (hcs 3 _ rfl)
        have x0 := hcs 0 _ rfl
        have x1 := hcs 1 _ rfl
        have x2 := hcs 2 _ rfl
        have x3 := hcs 3 _ rfl
        rw [kLn_sz] at x0 x1 x2 x3
        rw [Nat.add_zero] at x0
        simp only [kLn_sz, Nat.add_zero] at y0 y1 y2 y3
        obtain ⟨z15, hz15⟩ : ∃ z15, wq.heap.size = z15 := ⟨_, rfl⟩
        obtain ⟨w7, hw7⟩ : ∃ w7, wq.alloc (.cells #[.int .i64 l.fr, .int .i64 l.un, .slice A3 n3 c3, .slice A4 n4 c4] 86) = w7 := ⟨_, rfl⟩
        have hx7 : Ext wq w7 := by rw [← hw7]; exact (Ext.refl wq).alloc _
        have hB7 : w7.heap[z15]? = some (.cells #[.int .i64 l.fr, .int .i64 l.un, .slice A3 n3 c3, .slice A4 n4 c4] 86 (0, 0)) := by rw [← hw7, ← hz15]; exact heap_alloc_new _ _
        have HX7 := Lib.hid hx7
        have HB7 := Lib.hid hB7
        have e0 := cell_of hB7 (i := 0) rfl
        obtain ⟨K3, hK3⟩ : ∃ K3 : Nat → Prop, (fun j => K2 j ∨ (wq.heap.size ≤ j ∧ j < w7.heap.size)) = K3 := ⟨_, rfl⟩
        have HK3 := Lib.hid (show ∀ j, K3 j ↔ K2 j ∨ (wq.heap.size ≤ j ∧ j < w7.heap.size) from fun j => by rw [← hK3])
        have HKP7 := Lib.hid (show Kpt b0 K3 (hs ++ hitL br tb ls t p xs k) D2 w7 w7 by rw [← hK3]; exact HKP2'.out.widen HGM2.out hx7.lt)
        have HGM7 := Lib.hid (HGM2.out.keep hx7.grown)
        have HKZ15 := Lib.hid ((HK3.out z15).2 (.inr ⟨by omega, lt_of_block hB7⟩))
        have HX26 := Lib.hid (show ∀ j, K2 j → w7.heap[j]? = w6.heap[j]? from fun j hj => (hx7.block j (Nat.lt_of_lt_of_le (HKP2'.out.lt j hj) HKP2'.out.size)).trans (HKP2'.out.block j hj))
        have HS67 := Lib.hid (show w6.heap.size ≤ w7.heap.size from Nat.le_trans HKP2'.out.size hx7.lt)
        have HLK := Lib.hid (show ∀ D' W, GMap B b0 ((hs ++ hitL br tb ls t p xs k) ++ hitN br tb ls t p k l.fr (l.un - l.fr).toNat).length ((hs ++ hitL br tb ls t p xs k) ++ hitN br tb ls t p k l.fr (l.un - l.fr).toNat) D' W → Kpt b0 K3 ((hs ++ hitL br tb ls t p xs k) ++ hitN br tb ls t p k l.fr (l.un - l.fr).toNat) D' w7 W → ItB br tb ls t p xs hs b0 B K2 w6 (.int .i64 ((k : Int) + 1)) W from fun D' W g1 g2 => by
          have h0 : hs ++ hitL br tb ls t p xs (k + 1) = (hs ++ hitL br tb ls t p xs k) ++ hitN br tb ls t p k l.fr (l.un - l.fr).toNat := by
            rw [hitL_succ br tb ls t p hl, ← List.append_assoc]; rfl
          exact ⟨k + 1, D', by rw [HL.out]; omega, by simp, by rw [h0]; exact g1, by rw [h0]; exact HKP2'.out.narrowX HX7.out g2 fun j hj => (HK3.out j).2 (.inl hj)⟩)
        have hhk : (hitL br tb ls t p xs k).length ≤ 4000 := Nat.le_trans (hitL_len br tb ls t p xs HRNG.out k) (by omega)
        have hhs2 : (hs ++ hitL br tb ls t p xs k).length ≤ 16004000 := by rw [List.length_append]; omega
        generalize hs ++ hitL br tb ls t p xs k = hs2 at HKP2' HGM2 HKP7 HGM7 HLK hhs2
        obtain ⟨lfr, hlfr⟩ : ∃ lfr, l.fr = lfr := ⟨_, rfl⟩
        obtain ⟨lun, hlun⟩ : ∃ lun, l.un = lun := ⟨_, rfl⟩
        unfold RngL at hrg
        rw [hlfr] at HLK hrg hB7 HB7 e0 y0 x0 hw7
        rw [hlun] at HLK hrg hB7 HB7 y1 x1 hw7
        obtain ⟨hrg1, hrg2, hrg3⟩ := hrg
        clear hl hlr hrep hcs hx7 hB7 hK3 hlfr hlun hhk
        go_upto_region 11 with (fail)
        clear y0 y1 y2 y3 x0 x1 x2 x3 e0 hw7 hz15
        go_loopw [16, 17, 18] (fun s16 _ _ W => ItN br tb ls t p k lfr lun hs2 b0 B K3 w7 s16 W) (fun s16 _ _ _ => itM lun s16)
        case atStart => exact ⟨0, D2, by omega, by simp, by have h9 := HGM7.out; simpa [hitN] using h9, by have h9 := HKP7.out; simpa [hitN] using h9⟩
        case round =>
          obtain ⟨m, D3, hm, rfl, hgm, hkp⟩ := hrel
          rename World => wv
          have HGM3 := Lib.hid hgm
          have HKP3 := Lib.hid hkp
          obtain ⟨nn, hnn⟩ : ∃ nn, lfr + (m : Int) = nn := ⟨_, rfl⟩
          rw [hnn]
          have HNN := Lib.hid hnn
          have q1 := hkp.cell HKZ15.out (cell_of HB7.out (i := 1) rfl)
          have hkt := (HK3.out z12).2 (.inl HT6.out.2)
          have hkp11 := (HK3.out z11).2 (.inl HP6.out.2)
          have q2 := hkp.cell hkt (cell_of ((HX26.out z12 HT6.out.2).trans HT6.out.1) (i := 0) rfl)
          have q3 := hkp.cell hkt (cell_of ((HX26.out z12 HT6.out.2).trans HT6.out.1) (i := 1) rfl)
          have hml : (hitN br tb ls t p k lfr m).length ≤ m := hitN_len br tb ls t p k lfr m
          have hlen3 : (hs2 ++ hitN br tb ls t p k lfr m).length ≤ 16005000 := by rw [List.length_append]; omega
          have HST := Lib.hid (show hs2 ++ hitN br tb ls t p k lfr (m + 1) = (hs2 ++ hitN br tb ls t p k lfr m) ++ hitW br tb ls t p k nn by rw [hitN_succ, ← List.append_assoc, hnn])
          clear hgm hkp hnn hml
          by_cases hnu : nn < lun
          case neg =>
            have hmE : m = (lun - lfr).toNat := by have := HNN.out; omega
            subst hmE
            have HREL := Lib.hid (HLK.out D3 wv HGM3.out HKP3.out)
            go_wp2_with fail
            go_roundw
            case rel => exact HREL.out
            case measure => simp only [toM]; omega
          have hot := textB_ok HOK.out HT.out
          obtain ⟨hw1, hw2⟩ := hot.words
          have hwn : IntKind.i64.wrap (nn + 1) = nn + 1 := IntWalk.i64_in _ (by have := HNN.out; omega)
          have HV2 := Lib.hid (show ∀ j, K2 j → wv.heap[j]? = w6.heap[j]? from fun j hj => (HKP3.out.block j ((HK3.out j).2 (.inl hj))).trans (HX26.out j hj))
          have HSV := Lib.hid (Nat.le_trans HS67.out HKP3.out.size)
          have HWD := Lib.hid (gword_any K2 wv A5 A6 n5 n6 c5 c6 t nn (Lay.row_keep HTR5.out HSV.out fun j hj _ => HV2.out j hj) (Lay.row_keep HTR6.out HSV.out fun j hj _ => HV2.out j hj) (by have := hot.np; omega) (by have := hot.nn; omega) (by omega) (by omega))
          have HMS := Lib.hid (show ∀ D' W, GMap B b0 (hs2 ++ hitN br tb ls t p k lfr (m + 1)).length (hs2 ++ hitN br tb ls t p k lfr (m + 1)) D' W → Kpt b0 K3 (hs2 ++ hitN br tb ls t p k lfr (m + 1)) D' w7 W → ItN br tb ls t p k lfr lun hs2 b0 B K3 w7 (.int .i64 (nn + 1)) W from fun D' W g1 g2 => ⟨m + 1, D', by have := HNN.out; omega, by have := HNN.out; congr 1; simp only [Int.natCast_add]; omega, g1, g2⟩)
          rw [HST.out] at HMS
          clear hw1 hw2 hot hm
          cases ho : wordT t nn with
          | none =>
            have hW0 : hitW br tb ls t p k nn = [] := by unfold hitW; rw [ho]
            rw [hW0, List.append_nil] at HMS
            rw [ho] at HWD
            clear ho hW0
            have HWN := Lib.hid (show Calls Tryz.prog 32 #[.agg #[.slice A5 n5 c5, .slice A6 n6 c6], .int .i64 nn] wv (fun e w' => e = .returned (.tuple #[.agg #[.string ⟨#[]⟩, .string ⟨#[]⟩, .int .i64 0, .int .i64 0], .bool false]) ∧ Ext wv w') from HWD.out)
            go_wp2_with (first | (go_at_call 32; refine (HWN.out).mono ?_; rintro e w8 ⟨rfl, hx8⟩; have HX8 := Lib.hid hx8; clear hx8))
            go_roundw
            case rel => exact HMS.out D3 _ (HGM3.out.keep (HX8.out.alloc _).grown) (HKP3.out.extX (HX8.out.alloc _))
            case measure => simp only [itM]; omega
          | some x =>
            rw [ho] at HWD
            have HO := Lib.hid ho
            clear ho
            have HWS := Lib.hid (show Calls Tryz.prog 32 #[.agg #[.slice A5 n5 c5, .slice A6 n6 c6], .int .i64 nn] wv (fun e w' => e = .returned (.tuple #[.agg #[.string ⟨x.s.toArray⟩, .string ⟨x.key.toArray⟩, .int .i64 x.tb, .int .i64 x.nt], .bool true]) ∧ Ext wv w') from HWD.out)
            go_upto_region 14 with (first | (go_at_call 32; refine (HWS.out).mono ?_; rintro e w8 ⟨rfl, hx8⟩; have HX8 := Lib.hid hx8; clear hx8))
            obtain ⟨w9, hw9⟩ : ∃ w9, w8.alloc (.cells #[.string ⟨x.s.toArray⟩, .string ⟨x.key.toArray⟩, .int .i64 x.tb, .int .i64 x.nt] 60) = w9 := ⟨_, rfl⟩
            obtain ⟨z17, hz17⟩ : ∃ z17, w8.heap.size = z17 := ⟨_, rfl⟩
            have hx9 : Ext w8 w9 := by rw [← hw9]; exact (Ext.refl w8).alloc _
            have hB9 : w9.heap[z17]? = some (.cells #[.string ⟨x.s.toArray⟩, .string ⟨x.key.toArray⟩, .int .i64 x.tb, .int .i64 x.nt] 60 (0, 0)) := by rw [← hw9, ← hz17]; exact heap_alloc_new _ _
            rw [hw9, hz17]
            have HX9 := Lib.hid (HX8.out.trans hx9)
            have HB9 := Lib.hid hB9
            have HZ17 := Lib.hid (show wv.heap.size ≤ z17 by rw [← hz17]; exact HX8.out.lt)
            have g1 := cell_of hB9 (i := 1) rfl
            have g2 := cell_of hB9 (i := 2) rfl
            clear hx9 hB9 hw9 hz17 q1 q2 q3
            have HNO := Lib.hid (show hitW br tb ls t p k nn = [] → ∀ Y, Ext w9 Y → ItN br tb ls t p k lfr lun hs2 b0 B K3 w7 (.int .i64 (nn + 1)) Y from fun h0 Y hY => by
              have h9 := HMS.out
              rw [h0, List.append_nil] at h9
              exact h9 D3 Y (HGM3.out.keep (HX9.out.trans hY).grown) (HKP3.out.extX (HX9.out.trans hY)))
            have hWD : hitW br tb ls t p k nn = if x.key ≠ [] ∧ x.tb = tb ∧ seald ls p.ent p.ver nn = false then [(x.key, ⟨br, p.num, p.suf, (k : Int) + 1⟩)] else [] := by unfold hitW; rw [HO.out]
            by_cases hk0 : x.key = []
            · have h0 : hitW br tb ls t p k nn = [] := by rw [hWD, if_neg (by simp [hk0])]
              have HREL := Lib.hid (HNO.out h0 w9 (Ext.refl _))
              rw [hk0] at g1
              clear h0 hWD hk0
              go_wp2_with fail
              go_roundw
              case rel => exact HREL.out
              case measure => simp only [itM]; omega
            · have hkb : (x.key == []) = false := by simpa using hk0
              by_cases ht0 : x.tb = tb
              case neg =>
                have h0 : hitW br tb ls t p k nn = [] := by rw [hWD, if_neg (by simp [ht0])]
                have HREL := Lib.hid (HNO.out h0 w9 (Ext.refl _))
                have htb : (x.tb == tb) = false := by simpa using ht0
                clear h0 hWD hk0 ht0
                go_wp2_with fail
                go_roundw
                case rel => exact HREL.out
                case measure => simp only [itM]; omega
              have htb : (x.tb == tb) = true := by simpa using ht0
              have hP9 : w9.heap[z11]? = some (.cells #[.int .i64 p.num, .int .i64 p.suf, .int .i64 p.ent, .int .i64 p.ver, .slice A7 n7 c7, .slice A8 n8 c8] 84 (0, 0)) := (HX9.out.block _ (Nat.lt_of_lt_of_le (HKP3.out.lt z11 hkp11) HKP3.out.size)).trans ((HV2.out z11 HP6.out.2).trans HP6.out.1)
              have HP9 := Lib.hid hP9
              have g3 := cell_of hP9 (i := 2) rfl
              have g4 := cell_of hP9 (i := 3) rfl
              have HGR := Lib.hid (groups_any K2 w9 A2 n2 c2 ls p.ent p.ver nn (HSE.out w9 (Nat.le_trans HSV.out HX9.out.lt) fun j hj => (HX9.out.block j (by have := HKP3.out.lt j ((HK3.out j).2 (.inl hj)); have := HKP3.out.size; omega)).trans (HV2.out j hj)) hn2 hgr)
              have HHK := Lib.hid hkp11
              clear hP9
              cases hsl9 : seald ls p.ent p.ver nn with
              | true =>
                have h0 : hitW br tb ls t p k nn = [] := by rw [hWD, if_neg (by simp [hsl9])]
                have HNR := Lib.hid (HNO.out h0)
                rw [hsl9] at HGR
                clear h0 hWD hk0 ht0 hsl9
                go_wp2_with (first | (go_at_call 34; refine (HGR.out).mono ?_; rintro e w10 ⟨g, rfl, hg, hx10⟩; have HX10 := Lib.hid hx10; have hg0 : (g == 0) = false := beq_eq_false_iff_ne.2 (fun e9 => absurd (hg.1 e9) (by decide)); clear hg hx10))
                go_roundw
                case rel => exact HNR.out _ HX10.out
                case measure => simp only [itM]; omega
              | false =>
                have hW1 : hitW br tb ls t p k nn = [(x.key, ⟨br, p.num, p.suf, (k : Int) + 1⟩)] := by rw [hWD, if_pos ⟨hk0, ht0, hsl9⟩]
                rw [hW1] at HMS
                rw [hsl9] at HGR
                have hxk : x.key.length ≤ 1000 := hitW_key (textB_ok HOK.out HT.out) (x.key, ⟨br, p.num, p.suf, (k : Int) + 1⟩) (by rw [hW1]; exact .head _)
                obtain ⟨v, hlook, hvK, hvW, hpush⟩ := GMap.push2 HGM3.out (Nat.le_trans (by have := HBB.out; have := HXR6.out.lt; have := HSZ.out; omega) HSV.out) (k := x.key) (by unfold maxLen; omega) (by omega) (by omega)
                have HLOOK := Lib.hid hlook
                have HVK := Lib.hid hvK
                have HVW := Lib.hid hvW
                have HPUSH := Lib.hid hpush
                clear hlook hvK hvW hpush hW1 hWD hk0 ht0 hsl9 hxk
                go_upto_region 15 with (first | (go_at_call 34; refine (HGR.out).mono ?_; rintro e w10 ⟨g, rfl, hg, hx10⟩; have HX10 := Lib.hid hx10; obtain rfl : g = 0 := hg.2 rfl; clear hg hx10))
                have hX0 : Ext wv (w10.drew.alloc (.cells #[.int .i64 br, .int .i64 p.num, .int .i64 p.suf, .int .i64 ((k : Int) + 1)] 69)) := (HX9.out.trans HX10.out).drew.alloc _
                obtain ⟨A6', m6, c6', X1, hrun, hmap1, hk1, D', X2, hrun2, hp2⟩ := HPUSH.out _ hX0.grown _ (some ⟨w10.drew.heap.size, 0, none⟩) 1 1 [⟨br, p.num, p.suf, (k : Int) + 1⟩] (ct_new w10.drew ⟨br, p.num, p.suf, (k : Int) + 1⟩) (by simp) (by simp)
                have HREL := Lib.hid (HMS.out D' X2 (by have h9 := hp2.gm; simpa [Nat.add_assoc] using h9) ((HKP3.out.extX hX0).push HVK.out hp2))
                obtain ⟨X0, hX0e⟩ : ∃ X0, w10.drew.alloc (.cells #[.int .i64 br, .int .i64 p.num, .int .i64 p.suf, .int .i64 ((k : Int) + 1)] 69) = X0 := ⟨_, rfl⟩
                have hB10 := (HX10.out.block _ (lt_of_block HB9.out)).trans HB9.out
                have hP10 := (HX10.out.block _ (lt_of_block HP9.out)).trans HP9.out
                have hx1010 : Ext w10 X0 := by rw [← hX0e]; exact (Ext.refl w10).drew.alloc _
                have hB0 := (hx1010.block _ (lt_of_block hB10)).trans hB10
                have hP0 := (hx1010.block _ (lt_of_block hP10)).trans hP10
                rw [hX0e] at hX0 hrun hk1
                have RUN := Lib.hid (show (Builtin.append_ #[38, 38] 38 #[v, .slice (some ⟨w10.heap.size, 0, none⟩) 1 1]).run Tryz.prog X0 = .ok (.slice A6' m6 c6') X1 from hrun)
                have RUN2 := Lib.hid hrun2
                have HS := Lib.hid (show w10.drew.cell? ⟨z17, 1, none⟩ = some (.string ⟨x.key.toArray⟩) ∧ w10.drew.cell? ⟨z11, 0, none⟩ = some (.int .i64 p.num) ∧ w10.drew.cell? ⟨z11, 1, none⟩ = some (.int .i64 p.suf) ∧ (Instr.lookup 105 (.map (some b0)) (.string ⟨x.key.toArray⟩) false).run Tryz.prog w10.drew = .ok v w10.drew from ⟨cell_of (W := w10.drew) hB10 (i := 1) rfl, cell_of (W := w10.drew) hP10 (i := 0) rfl, cell_of (W := w10.drew) hP10 (i := 1) rfl, HLOOK.out _ (HGM3.out.own.kept (HX9.out.trans HX10.out).drew.grown (by simp))⟩)
                have HS0 := Lib.hid (show X0.cell? ⟨z17, 1, none⟩ = some (.string ⟨x.key.toArray⟩) ∧ X0.cell? ⟨z11, 0, none⟩ = some (.int .i64 p.num) ∧ X0.cell? ⟨z11, 1, none⟩ = some (.int .i64 p.suf) ∧ (Instr.lookup 105 (.map (some b0)) (.string ⟨x.key.toArray⟩) false).run Tryz.prog X0 = .ok v X0 from ⟨cell_of hB0 (i := 1) rfl, cell_of hP0 (i := 0) rfl, cell_of hP0 (i := 1) rfl, HLOOK.out _ (HGM3.out.own.kept hX0.grown (by simp))⟩)
                have hB1 : X1.heap[z17]? = _ := (hk1 z17 (lt_of_block hB0) fun e9 => by have := HVW.out z17 e9; have := HZ17.out; omega).trans hB0
                have hP1 : X1.heap[z11]? = _ := (hk1 z11 (lt_of_block hP0) fun e9 => HVK.out K3 HKP3.out.av z11 e9 HHK.out).trans hP0
                have HS1 := Lib.hid (show X1.cell? ⟨z17, 1, none⟩ = some (.string ⟨x.key.toArray⟩) ∧ X1.cell? ⟨z11, 0, none⟩ = some (.int .i64 p.num) ∧ X1.cell? ⟨z11, 1, none⟩ = some (.int .i64 p.suf) ∧ (Instr.lookup 105 (.map (some b0)) (.string ⟨x.key.toArray⟩) false).run Tryz.prog X1 = .ok v X1 from ⟨cell_of hB1 (i := 1) rfl, cell_of hP1 (i := 0) rfl, cell_of hP1 (i := 1) rfl, HLOOK.out _ hmap1⟩)
                clear hX0 hrun hmap1 hk1 hrun2 hp2 hB10 hP10 hx1010 hB0 hP0 hB1 hP1 g1 g2 g3 g4
                have hS0 : (fun X : World => X.cell? ⟨z17, 1, none⟩ = some (.string ⟨x.key.toArray⟩) ∧ X.cell? ⟨z11, 0, none⟩ = some (.int .i64 p.num) ∧ X.cell? ⟨z11, 1, none⟩ = some (.int .i64 p.suf) ∧ (Instr.lookup 105 (.map (some b0)) (.string ⟨x.key.toArray⟩) false).run Tryz.prog X = .ok v X) w10.drew := HS.out
                refine wp_region_E (fun X : World => X.cell? ⟨z17, 1, none⟩ = some (.string ⟨x.key.toArray⟩) ∧ X.cell? ⟨z11, 0, none⟩ = some (.int .i64 p.num) ∧ X.cell? ⟨z11, 1, none⟩ = some (.int .i64 p.suf) ∧ (Instr.lookup 105 (.map (some b0)) (.string ⟨x.key.toArray⟩) false).run Tryz.prog X = .ok v X) (fun _ => True) (fun i => i == 15) (by kernel_rfl) ?_
                refine wpE_takeS (i := 0) (d := some 86) (v := .map (some b0)) rfl rfl (by kernel_rfl) (by kernel_rfl) (by kernel_rfl) (by kernel_rfl) (fun _ _ _ h => h) (by rfl) ?hy1 hS0 trivial ?go1
                case hy1 =>
                  intro w9 hT9
                  clear hT9; go_simp
                (try simp only [Act.put, List.setIfInBounds_toArray, List.set_cons_zero, List.set_cons_succ])
                refine wpE_takeS (i := 1) (d := some 87) (v := .pointer (some ⟨z17, 1, none⟩)) rfl rfl (by kernel_rfl) (by kernel_rfl) (by kernel_rfl) (by kernel_rfl) (fun _ _ _ h => h) (by rfl) ?hy2 hS0 trivial ?go2
                case hy2 =>
                  intro w9 hT9
                  clear hT9; go_simp
                (try simp only [Act.put, List.setIfInBounds_toArray, List.set_cons_zero, List.set_cons_succ])
                refine wpE_takeS (i := 2) (d := some 88) (v := .string ⟨x.key.toArray⟩) rfl rfl (by kernel_rfl) (by kernel_rfl) (by kernel_rfl) (by kernel_rfl) (fun _ _ _ h => h) (by rfl) ?hy3 hS0 trivial ?go3
                case hy3 =>
                  intro w9 hT9
                  obtain ⟨s0, s1, s2, s3⟩ := hT9; go_simp
                (try simp only [Act.put, List.setIfInBounds_toArray, List.set_cons_zero, List.set_cons_succ])
                refine wpE_takeS (i := 3) (d := some 89) (v := .map (some b0)) rfl rfl (by kernel_rfl) (by kernel_rfl) (by kernel_rfl) (by kernel_rfl) (fun _ _ _ h => h) (by rfl) ?hy4 hS0 trivial ?go4
                case hy4 =>
                  intro w9 hT9
                  clear hT9; go_simp
                (try simp only [Act.put, List.setIfInBounds_toArray, List.set_cons_zero, List.set_cons_succ])
                refine wpE_takeS (i := 4) (d := some 90) (v := .pointer (some ⟨z17, 1, none⟩)) rfl rfl (by kernel_rfl) (by kernel_rfl) (by kernel_rfl) (by kernel_rfl) (fun _ _ _ h => h) (by rfl) ?hy5 hS0 trivial ?go5
                case hy5 =>
                  intro w9 hT9
                  clear hT9; go_simp
                (try simp only [Act.put, List.setIfInBounds_toArray, List.set_cons_zero, List.set_cons_succ])
                refine wpE_takeS (i := 5) (d := some 91) (v := .string ⟨x.key.toArray⟩) rfl rfl (by kernel_rfl) (by kernel_rfl) (by kernel_rfl) (by kernel_rfl) (fun _ _ _ h => h) (by rfl) ?hy6 hS0 trivial ?go6
                case hy6 =>
                  intro w9 hT9
                  obtain ⟨s0, s1, s2, s3⟩ := hT9; go_simp
                (try simp only [Act.put, List.setIfInBounds_toArray, List.set_cons_zero, List.set_cons_succ])
                refine wpE_takeS (i := 6) (d := some 92) (v := v) rfl rfl (by kernel_rfl) (by kernel_rfl) (by kernel_rfl) (by kernel_rfl) (fun _ _ _ h => h) (by rfl) ?hy7 hS0 trivial ?go7
                case hy7 =>
                  intro w9 hT9
                  obtain ⟨s0, s1, s2, s3⟩ := hT9; go_simp
                (try simp only [Act.put, List.setIfInBounds_toArray, List.set_cons_zero, List.set_cons_succ])
                refine wpE_takeS (i := 7) (d := some 93) (v := .int .i64 br) rfl rfl (by kernel_rfl) (by kernel_rfl) (by kernel_rfl) (by kernel_rfl) (fun _ _ _ h => h) (by rfl) ?hy8 hS0 trivial ?go8
                case hy8 =>
                  intro w9 hT9
                  clear hT9; go_simp
                (try simp only [Act.put, List.setIfInBounds_toArray, List.set_cons_zero, List.set_cons_succ])
                refine wpE_takeS (i := 8) (d := some 94) (v := .pointer (some ⟨z11, 0, none⟩)) rfl rfl (by kernel_rfl) (by kernel_rfl) (by kernel_rfl) (by kernel_rfl) (fun _ _ _ h => h) (by rfl) ?hy9 hS0 trivial ?go9
                case hy9 =>
                  intro w9 hT9
                  clear hT9; go_simp
                (try simp only [Act.put, List.setIfInBounds_toArray, List.set_cons_zero, List.set_cons_succ])
                refine wpE_takeS (i := 9) (d := some 95) (v := .agg #[.int .i64 p.num, .int .i64 p.suf]) rfl rfl (by kernel_rfl) (by kernel_rfl) (by kernel_rfl) (by kernel_rfl) (fun _ _ _ h => h) (by rfl) ?hy10 hS0 trivial ?go10
                case hy10 =>
                  intro w9 hT9
                  obtain ⟨s0, s1, s2, s3⟩ := hT9; go_simp
                (try simp only [Act.put, List.setIfInBounds_toArray, List.set_cons_zero, List.set_cons_succ])
                refine wpE_takeS (i := 10) (d := some 96) (v := .int .i64 (k : Int)) rfl rfl (by kernel_rfl) (by kernel_rfl) (by kernel_rfl) (by kernel_rfl) (fun _ _ _ h => h) (by rfl) ?hy11 hS0 trivial ?go11
                case hy11 =>
                  intro w9 hT9
                  clear hT9; go_simp
                (try simp only [Act.put, List.setIfInBounds_toArray, List.set_cons_zero, List.set_cons_succ])
                refine wpE_takeS (i := 11) (d := some 97) (v := .int .i64 ((k : Int) + 1)) rfl rfl (by kernel_rfl) (by kernel_rfl) (by kernel_rfl) (by kernel_rfl) (fun _ _ _ h => h) (by rfl) ?hy12 hS0 trivial ?go12
                case hy12 =>
                  intro w9 hT9
                  clear hT9; go_simp
                (try simp only [Act.put, List.setIfInBounds_toArray, List.set_cons_zero, List.set_cons_succ])
                refine wpE_takeS (i := 12) (d := some 98) (v := .agg #[.int .i64 br, .int .i64 p.num, .int .i64 p.suf, .int .i64 ((k : Int) + 1)]) rfl rfl (by kernel_rfl) (by kernel_rfl) (by kernel_rfl) (by kernel_rfl) (fun _ _ _ h => h) (by rfl) ?hy13 hS0 trivial ?go13
                case hy13 =>
                  intro w9 hT9
                  clear hT9; go_simp
                (try simp only [Act.put, List.setIfInBounds_toArray, List.set_cons_zero, List.set_cons_succ])
                refine wpE_all (rs := [13]) (by kernel_rfl) (by simp) ?_
                refine AllE.cons rfl (fun K hK => ?_) AllE.nil
                simp only [List.getElem_toArray, List.getElem_cons_succ, List.getElem_cons_zero]
                go_simp
                refine hK.out _ _ ⟨fun _ => HS0.out, trivial⟩ (fun _ => ?_)
                clear hK K
                have hS0 := HS0.out
                (try simp only [Act.put, List.setIfInBounds_toArray, List.set_cons_zero, List.set_cons_succ])
                refine wpE_all (rs := [14]) (by kernel_rfl) (by simp) ?_
                refine AllE.cons rfl (fun K hK => ?_) AllE.nil
                simp only [List.getElem_toArray, List.getElem_cons_succ, List.getElem_cons_zero]
                refine step_append_tm (s := .tmp 92) (x := .tmp 99) RUN.out rfl rfl rfl rfl rfl ?_
                refine hK.out _ _ ⟨fun _ => HS1.out, trivial⟩ (fun _ => ?_)
                clear hK K
                have hS0 := HS1.out
                (try simp only [Act.put, List.setIfInBounds_toArray, List.set_cons_zero, List.set_cons_succ])
                refine wpE_all (rs := [15]) (by kernel_rfl) (by simp) ?_
                refine AllE.cons rfl (fun K hK => ?_) AllE.nil
                simp only [List.getElem_toArray, List.getElem_cons_succ, List.getElem_cons_zero]
                refine step_mapU (m := .tmp 86) (k := .tmp 88) (x := .tmp 100) RUN2.out rfl rfl rfl rfl rfl ?_
                refine hK.out _ _ ⟨fun h => absurd h (by simp), trivial⟩ (fun _ => ?_)
                clear hK K
                (try simp only [Act.put])
                refine wpE_done (by kernel_rfl) ?_ _
                go_wp2_with fail
                go_roundw
                case rel => exact HREL.out
                case measure => simp only [itM]; omega
end Go.Proofs.YtdbnddmncbjobaaGreatDoor

/- The example of the chapter: a book in plain Lean; word, example: walked. -/
namespace Go.Proofs.YtdbnddmncbjobaaGreatDoor
open Go Go.RowKit
attribute [local go_sem] Oper.semAt_some

/-- A block of elements, as a row. -/
theorem row_block {β : Type} {k : Lay β} {W : World} {P : Nat → Prop} {g : Nat} {T : TypeId} {cur : Array Value} {ds : List (Cs k.sz)} {xs : List β} (hb : W.heap[g]? = some (.cells cur T (0, 0))) (hc : cur.toList = gcells ccf ds) (hl : ds.length = xs.length) (hP : P g)
    (hr : ∀ (i : Nat) (d : Cs k.sz) (x : β), ds[i]? = some d → xs[i]? = some x → k.rep W P x d.1) : k.row W P (some ⟨g, 0, none⟩) xs.length xs := by
  have hg := lt_of_block hb
  refine ⟨ds, rfl, hl, ⟨hl.symm, fun _ => ⟨g, 0, rfl, hg, fun i d hd j u hu => ?_⟩⟩, fun x hx => by injection hx with hx; subst hx; exact ⟨hP, hg⟩, hr⟩
  have hj : j < k.sz := by rw [← ccf_len d]; exact (List.getElem?_eq_some_iff.1 hu).1
  have h1 := gcells_at ccf_len ds i d hd j hj
  rw [hu, ← hc] at h1
  rw [Nat.zero_add]
  exact cell_of hb (by rw [← Array.getElem?_toList]; exact h1)
def wdC (x : Wd) : Cs kWd.sz := ⟨[.string ⟨x.s.toArray⟩, .string ⟨x.key.toArray⟩, .int .i64 x.tb, .int .i64 x.nt], rfl, fun u hu => by simp only [List.mem_cons, List.not_mem_nil, or_false] at hu; rcases hu with rfl | rfl | rfl | rfl <;> rfl⟩
theorem wd_block {W : World} {P : Nat → Prop} {g : Nat} {T : TypeId} {cur : Array Value} (xs : List Wd) (hb : W.heap[g]? = some (.cells cur T (0, 0))) (hc : cur.toList = gcells ccf (xs.map wdC)) (hP : P g) : kWd.row W P (some ⟨g, 0, none⟩) xs.length xs :=
  row_block hb hc (by simp) hP fun i d x hd hx => by
    rw [List.getElem?_map, hx] at hd
    obtain rfl := Option.some.inj hd
    exact kWd_rep.2 rfl
def slC (A : Option Addr) (n c : Nat) : Cs kWs.sz := ⟨[.slice A n c], rfl, fun u hu => by simp only [List.mem_singleton] at hu; subst hu; rfl⟩
/-- The words of the example. -/
def exSee : Wd := ⟨[115, 101, 101], [], 0, 0⟩
def exSm1 : Wd := ⟨[83, 109, 105, 116, 104], [115, 109, 105, 116, 104], 1, 1⟩
def exAnd : Wd := ⟨[97, 110, 100], [], 0, 0⟩
def exSm : Wd := ⟨[83, 109, 105, 116, 104], [115, 109, 105, 116, 104], 1, 0⟩
def exJo : Wd := ⟨[74, 111, 110, 101, 115], [106, 111, 110, 101, 115], 1, 0⟩
def exT : Tx := ⟨[[exSee, exSm1], [exAnd, exSm, exJo]], [[exSm]]⟩
def ex0 : Bk := ⟨500, 10, []⟩
def exB : Bk := addP ex0 0 0 exT
theorem exOk : ∀ w ∈ [exSee, exSm1, exAnd, exSm, exJo], OkW w := by unfold OkW; decide
theorem exT_ok : OkT exT := by
  refine ⟨⟨?_, ?_⟩, by decide, by decide, by decide, ?_, by decide⟩
  · decide
  · intro p hp w hw
    simp only [exT, List.mem_cons, List.not_mem_nil, or_false] at hp
    rcases hp with rfl | rfl <;> exact exOk w (by revert hw; simp only [List.mem_cons, List.not_mem_nil, or_false]; rintro (h | h) <;> simp [h])
  · intro p hp w hw
    simp only [exT, List.mem_cons, List.not_mem_nil, or_false] at hp
    subst hp
    simp only [List.mem_cons, List.not_mem_nil, or_false] at hw
    subst hw
    exact ⟨exOk exSm (by simp), rfl⟩
theorem ex0_ok : OkB ex0 0 1 := ⟨by decide, by decide, by decide, by decide, by decide, fun x hx => (by cases hx), fun x hx => (by cases hx), .nil⟩
theorem exB_ok : OkB exB 1 1 := ex0_ok.add (by omega) 0 exT_ok fun y hy => by cases hy
theorem ex_add : addE ex0 0 0 exT = 0 := by decide +kernel
def exPl (l : Int) : Ct := ⟨3, 1, 0, l⟩
def exWant : Tb := [([106, 111, 110, 101, 115], [exPl 2]), ([115, 109, 105, 116, 104], [exPl 1, exPl 2, exPl 3])]
def exSealed : Tb := [([106, 111, 110, 101, 115], [exPl 2]), ([115, 109, 105, 116, 104], [exPl 2, exPl 3])]
def exSeal : Sea := ⟨0, 0, 1, 2, 4⟩
theorem ex_items : itemsB 3 1 [] exB = exWant ∧ itemsB 3 1 [exSeal] exB = exSealed ∧ itemsB 3 0 [] exB = [] := by decide +kernel
theorem ex_find : findP exWant [106, 111, 110, 101, 115] = some [exPl 2] ∧ findP exWant [74, 111, 110, 101, 115] = none ∧ mrgP exWant exSealed = exWant := by decide +kernel
set_option maxRecDepth 100000 in
theorem word31_any (s key : List UInt8) (nt : Int) (w : World) (n : Nat) (hn : key.length = n) : Calls Tryz.prog 121 #[.string ⟨s.toArray⟩, .string ⟨key.toArray⟩, .int .i64 nt] w fun e w' => e = .returned (.agg #[.string ⟨s.toArray⟩, .string ⟨key.toArray⟩, .int .i64 (min (n : Int) 1), .int .i64 nt]) ∧ Ext w w' := by
  have hx : Ext w (w.alloc (.cells #[.string ⟨s.toArray⟩, .string ⟨key.toArray⟩, .int .i64 (min (n : Int) 1), .int .i64 nt] 60)) := (Ext.refl w).alloc _
  have HX := Lib.hid hx
  obtain ⟨m, hm⟩ : ∃ m, min (n : Int) 1 = m := ⟨_, rfl⟩
  have hsz : (⟨key.toArray⟩ : ByteArray).size = n := by rw [← hn]; simp [ByteArray.size]
  clear hx
  go_enter Tryz.func121, Tryz.ntmps121
  go_wp2_with fail
  obtain ⟨Y, hY⟩ : ∃ Y, w.alloc (.cells #[.string ⟨s.toArray⟩, .string ⟨key.toArray⟩, .int .i64 m, .int .i64 nt] 60) = Y := ⟨_, rfl⟩
  have hB : Y.heap[w.heap.size]? = some (.cells #[.string ⟨s.toArray⟩, .string ⟨key.toArray⟩, .int .i64 m, .int .i64 nt] 60 (0, 0)) := by rw [← hY]; exact heap_alloc_new _ _
  have h9 := HX.out
  rw [hm, hY] at h9
  rw [hY, hm]
  have q0 := cell_of hB (i := 0) rfl
  have q1 := cell_of hB (i := 1) rfl
  have q2 := cell_of hB (i := 2) rfl
  have q3 := cell_of hB (i := 3) rfl
  refine bodyPost_ret (v := .agg #[.string ⟨s.toArray⟩, .string ⟨key.toArray⟩, .int .i64 m, .int .i64 nt]) (by simp [results, Tryz.results121, go_sem, q0, q1, q2, q3]) rfl ?_
  exact ⟨rfl, h9⟩
theorem w31See (w : World) : Calls Tryz.prog 121 #[.string ⟨#[115, 101, 101]⟩, .string ⟨#[]⟩, .int .i64 0] w fun e w' => e = .returned (.agg #[.string ⟨#[115, 101, 101]⟩, .string ⟨#[]⟩, .int .i64 0, .int .i64 0]) ∧ Ext w w' := word31_any [115, 101, 101] [] 0 w 0 rfl
theorem w31Sm1 (w : World) : Calls Tryz.prog 121 #[.string ⟨#[83, 109, 105, 116, 104]⟩, .string ⟨#[115, 109, 105, 116, 104]⟩, .int .i64 1] w fun e w' => e = .returned (.agg #[.string ⟨#[83, 109, 105, 116, 104]⟩, .string ⟨#[115, 109, 105, 116, 104]⟩, .int .i64 1, .int .i64 1]) ∧ Ext w w' := word31_any [83, 109, 105, 116, 104] [115, 109, 105, 116, 104] 1 w 5 rfl
theorem w31And (w : World) : Calls Tryz.prog 121 #[.string ⟨#[97, 110, 100]⟩, .string ⟨#[]⟩, .int .i64 0] w fun e w' => e = .returned (.agg #[.string ⟨#[97, 110, 100]⟩, .string ⟨#[]⟩, .int .i64 0, .int .i64 0]) ∧ Ext w w' := word31_any [97, 110, 100] [] 0 w 0 rfl
theorem w31Sm (w : World) : Calls Tryz.prog 121 #[.string ⟨#[83, 109, 105, 116, 104]⟩, .string ⟨#[115, 109, 105, 116, 104]⟩, .int .i64 0] w fun e w' => e = .returned (.agg #[.string ⟨#[83, 109, 105, 116, 104]⟩, .string ⟨#[115, 109, 105, 116, 104]⟩, .int .i64 1, .int .i64 0]) ∧ Ext w w' := word31_any [83, 109, 105, 116, 104] [115, 109, 105, 116, 104] 0 w 5 rfl
theorem w31Jo (w : World) : Calls Tryz.prog 121 #[.string ⟨#[74, 111, 110, 101, 115]⟩, .string ⟨#[106, 111, 110, 101, 115]⟩, .int .i64 0] w fun e w' => e = .returned (.agg #[.string ⟨#[74, 111, 110, 101, 115]⟩, .string ⟨#[106, 111, 110, 101, 115]⟩, .int .i64 1, .int .i64 0]) ∧ Ext w w' := word31_any [74, 111, 110, 101, 115] [106, 111, 110, 101, 115] 0 w 5 rfl
set_option maxHeartbeats 4000000 in
set_option maxRecDepth 100000 in
theorem example31_any (w : World) (hL : EnvW w) : Calls Tryz.prog 63 #[] w fun e w' => ∃ A n c, e = .returned (.tuple #[.agg #[.int .i64 500, .int .i64 10, .slice A n c], .bool true]) ∧ n ≤ c ∧ kSe.row w' (fun _ => True) A n exB.secs ∧ Ext w w' := by
  obtain ⟨z0, hz0⟩ : ∃ z0, w.heap.size = z0 := ⟨_, rfl⟩
  obtain ⟨w0, hw0⟩ : ∃ w0, w.alloc (.cells #[.int .i64 0, .int .i64 0, .slice none 0 0] 27) = w0 := ⟨_, rfl⟩
  have hx0 : Ext w w0 := by rw [← hw0]; exact (Ext.refl w).alloc _
  have hB0 : w0.heap[z0]? = some (.cells #[.int .i64 0, .int .i64 0, .slice none 0 0] 27 (0, 0)) := by rw [← hw0, ← hz0]; exact heap_alloc_new _ _
  have HX0 := Lib.hid hx0
  have HB0 := Lib.hid hB0
  have HL := Lib.hid hL
  have HZ0 := Lib.hid hz0
  clear hx0 hB0 hL
  go_enter Tryz.func63, Tryz.ntmps63
  go_upto_region 1 with (fail)
  clear hw0 hz0
  go_wp2_with fail
  refine (w31See w0).mono ?_
  rintro e wa ⟨rfl, hxa⟩
  have HXA := Lib.hid hxa
  clear hxa
  go_wp2_with fail
  refine (w31Sm1 wa).mono ?_
  rintro e wb ⟨rfl, hxb⟩
  have HXB := Lib.hid (HXA.out.trans hxb)
  clear hxb
  obtain ⟨g1, hg1⟩ : ∃ g1, wb.heap.size = g1 := ⟨_, rfl⟩
  obtain ⟨w3, hw3⟩ : ∃ w3, wb.alloc (.cells #[.string ⟨#[115, 101, 101]⟩, .string ⟨#[]⟩, .int .i64 0, .int .i64 0, .string ⟨#[83, 109, 105, 116, 104]⟩, .string ⟨#[115, 109, 105, 116, 104]⟩, .int .i64 1, .int .i64 1] 60) = w3 := ⟨_, rfl⟩
  have hxw3 : Ext wb w3 := by rw [← hw3]; exact (Ext.refl wb).alloc _
  have hbw3 : w3.heap[g1]? = some (.cells #[.string ⟨#[115, 101, 101]⟩, .string ⟨#[]⟩, .int .i64 0, .int .i64 0, .string ⟨#[83, 109, 105, 116, 104]⟩, .string ⟨#[115, 109, 105, 116, 104]⟩, .int .i64 1, .int .i64 1] 60 (0, 0)) := by rw [← hw3, ← hg1]; exact heap_alloc_new _ _
  have HX3 := Lib.hid (HXB.out.trans hxw3)
  have HG1 := Lib.hid hbw3
  clear hxw3 hbw3
  go_wp2_with fail
  refine (w31And w3).mono ?_
  rintro e wc ⟨rfl, hxc⟩
  clear hg1 hw3
  go_wp2_with fail
  refine (w31Sm wc).mono ?_
  rintro e wd ⟨rfl, hxd⟩
  go_wp2_with fail
  refine (w31Jo wd).mono ?_
  rintro e we ⟨rfl, hxe⟩
  have HX3E := Lib.hid (hxc.trans (hxd.trans hxe))
  clear hxc hxd hxe
  obtain ⟨g2, hg2⟩ : ∃ g2, we.heap.size = g2 := ⟨_, rfl⟩
  obtain ⟨w4, hw4⟩ : ∃ w4, we.alloc (.cells #[.string ⟨#[97, 110, 100]⟩, .string ⟨#[]⟩, .int .i64 0, .int .i64 0, .string ⟨#[83, 109, 105, 116, 104]⟩, .string ⟨#[115, 109, 105, 116, 104]⟩, .int .i64 1, .int .i64 0, .string ⟨#[74, 111, 110, 101, 115]⟩, .string ⟨#[106, 111, 110, 101, 115]⟩, .int .i64 1, .int .i64 0] 60) = w4 := ⟨_, rfl⟩
  have hxw4 : Ext we w4 := by rw [← hw4]; exact (Ext.refl we).alloc _
  have hbw4 : w4.heap[g2]? = some (.cells #[.string ⟨#[97, 110, 100]⟩, .string ⟨#[]⟩, .int .i64 0, .int .i64 0, .string ⟨#[83, 109, 105, 116, 104]⟩, .string ⟨#[115, 109, 105, 116, 104]⟩, .int .i64 1, .int .i64 0, .string ⟨#[74, 111, 110, 101, 115]⟩, .string ⟨#[106, 111, 110, 101, 115]⟩, .int .i64 1, .int .i64 0] 60 (0, 0)) := by rw [← hw4, ← hg2]; exact heap_alloc_new _ _
  obtain ⟨g3, hg3⟩ : ∃ g3, w4.heap.size = g3 := ⟨_, rfl⟩
  obtain ⟨w5, hw5⟩ : ∃ w5, w4.alloc (.cells #[.slice (some ⟨g1, 0, none⟩) 2 2, .slice (some ⟨g2, 0, none⟩) 3 3] 54) = w5 := ⟨_, rfl⟩
  have hxw5 : Ext w4 w5 := by rw [← hw5]; exact (Ext.refl w4).alloc _
  have hbw5 : w5.heap[g3]? = some (.cells #[.slice (some ⟨g1, 0, none⟩) 2 2, .slice (some ⟨g2, 0, none⟩) 3 3] 54 (0, 0)) := by rw [← hw5, ← hg3]; exact heap_alloc_new _ _
  have HX35 := Lib.hid (HX3E.out.trans (hxw4.trans hxw5))
  have HG2 := Lib.hid ((hxw5.block _ (lt_of_block hbw4)).trans hbw4)
  have HG3 := Lib.hid hbw5
  clear hxw4 hxw5 hbw4 hbw5
  go_wp2_with fail
  refine (w31Sm w5).mono ?_
  rintro e wf ⟨rfl, hxf⟩
  have HX5F := Lib.hid hxf
  clear hxf hg2 hw4 hg3 hw5
  obtain ⟨g4, hg4⟩ : ∃ g4, wf.heap.size = g4 := ⟨_, rfl⟩
  obtain ⟨w6, hw6⟩ : ∃ w6, wf.alloc (.cells #[.string ⟨#[83, 109, 105, 116, 104]⟩, .string ⟨#[115, 109, 105, 116, 104]⟩, .int .i64 1, .int .i64 0] 60) = w6 := ⟨_, rfl⟩
  have hxw6 : Ext wf w6 := by rw [← hw6]; exact (Ext.refl wf).alloc _
  have hbw6 : w6.heap[g4]? = some (.cells #[.string ⟨#[83, 109, 105, 116, 104]⟩, .string ⟨#[115, 109, 105, 116, 104]⟩, .int .i64 1, .int .i64 0] 60 (0, 0)) := by rw [← hw6, ← hg4]; exact heap_alloc_new _ _
  obtain ⟨g5, hg5⟩ : ∃ g5, w6.heap.size = g5 := ⟨_, rfl⟩
  obtain ⟨w7, hw7⟩ : ∃ w7, w6.alloc (.cells #[.slice (some ⟨g4, 0, none⟩) 1 1] 54) = w7 := ⟨_, rfl⟩
  have hxw7 : Ext w6 w7 := by rw [← hw7]; exact (Ext.refl w6).alloc _
  have hbw7 : w7.heap[g5]? = some (.cells #[.slice (some ⟨g4, 0, none⟩) 1 1] 54 (0, 0)) := by rw [← hw7, ← hg5]; exact heap_alloc_new _ _
  obtain ⟨z2, hz2⟩ : ∃ z2, w7.heap.size = z2 := ⟨_, rfl⟩
  obtain ⟨w8, hw8⟩ : ∃ w8, w7.alloc (.cells #[.slice (some ⟨g3, 0, none⟩) 2 2, .slice (some ⟨g5, 0, none⟩) 1 1] 53) = w8 := ⟨_, rfl⟩
  have hxw8 : Ext w7 w8 := by rw [← hw8]; exact (Ext.refl w7).alloc _
  have hbw8 : w8.heap[z2]? = some (.cells #[.slice (some ⟨g3, 0, none⟩) 2 2, .slice (some ⟨g5, 0, none⟩) 1 1] 53 (0, 0)) := by rw [← hw8, ← hz2]; exact heap_alloc_new _ _
  have hx58 : Ext w5 w8 := HX5F.out.trans (hxw6.trans (hxw7.trans hxw8))
  have h1 := ((HX35.out.trans hx58).block _ (lt_of_block HG1.out)).trans HG1.out
  have h2 := (hx58.block _ (lt_of_block HG2.out)).trans HG2.out
  have h3 := (hx58.block _ (lt_of_block HG3.out)).trans HG3.out
  have h4 := ((hxw7.trans hxw8).block _ (lt_of_block hbw6)).trans hbw6
  have h5 := (hxw8.block _ (lt_of_block hbw7)).trans hbw7
  have r1 : kWd.row w8 (fun _ => True) (some ⟨g1, 0, none⟩) 2 [exSee, exSm1] := wd_block (W := w8) [exSee, exSm1] h1 rfl trivial
  have r2 : kWd.row w8 (fun _ => True) (some ⟨g2, 0, none⟩) 3 [exAnd, exSm, exJo] := wd_block (W := w8) [exAnd, exSm, exJo] h2 rfl trivial
  have r4 : kWd.row w8 (fun _ => True) (some ⟨g4, 0, none⟩) 1 [exSm] := wd_block (W := w8) [exSm] h4 rfl trivial
  have r3 : kWs.row w8 (fun _ => True) (some ⟨g3, 0, none⟩) 2 exT.paras := row_block (k := kWs) (ds := [slC (some ⟨g1, 0, none⟩) 2 2, slC (some ⟨g2, 0, none⟩) 3 3]) (xs := exT.paras) h3 rfl rfl trivial fun i d x hd hx => by
    match i with
    | 0 =>
      simp only [List.getElem?_cons_zero, Option.some.injEq, exT] at hd hx
      subst hd hx
      exact kWs_rep.2 ⟨_, 2, rfl, Nat.le_refl _, r1⟩
    | 1 =>
      simp only [List.getElem?_cons_succ, List.getElem?_cons_zero, Option.some.injEq, exT] at hd hx
      subst hd hx
      exact kWs_rep.2 ⟨_, 3, rfl, Nat.le_refl _, r2⟩
    | i + 2 => simp at hd
  have r5 : kWs.row w8 (fun _ => True) (some ⟨g5, 0, none⟩) 1 exT.notes := row_block (k := kWs) (ds := [slC (some ⟨g4, 0, none⟩) 1 1]) (xs := exT.notes) h5 rfl rfl trivial fun i d x hd hx => by
    match i with
    | 0 =>
      simp only [List.getElem?_cons_zero, Option.some.injEq, exT] at hd hx
      subst hd hx
      exact kWs_rep.2 ⟨_, 1, rfl, Nat.le_refl _, r4⟩
    | i + 1 => simp at hd
  have HX08 := Lib.hid ((HX3.out.trans HX35.out).trans hx58)
  have HADD := Lib.hid (add_any (fun _ => True) (fun _ => True) w8 ex0 0 0 exT none (some ⟨g3, 0, none⟩) (some ⟨g5, 0, none⟩) 0 0 2 2 1 1 (ex0_ok.bkI (by omega) (by omega) (by omega)) (by decide) (fun _ => exB_ok.bkI (by omega) (by omega) (by omega)) exT_ok (Lay.row_nil _ _ _) r3 r5 (HL.out.ext (HX0.out.trans HX08.out)))
  rw [ex_add] at HADD
  have e0 := cell_of hbw8 (i := 0) rfl
  have e1 := cell_of hbw8 (i := 1) rfl
  clear hx58 h1 h2 h3 h4 h5 r1 r2 r3 r4 r5 hxw6 hxw7 hxw8 hbw6 hbw7 hbw8
  have HAD := Lib.hid (show Calls Tryz.prog 37 #[.agg #[.int .i64 500, .int .i64 10, .slice none 0 0], .int .i64 0, .int .i64 0, .agg #[.slice (some ⟨g3, 0, none⟩) 2 2, .slice (some ⟨g5, 0, none⟩) 1 1]] w8 (OpPost w8 0 500 10 exB.secs) from HADD.out)
  clear HADD
  go_upto_region 3 with (first | (go_at_call 37; refine (HAD.out).mono ?_; rintro e wg ⟨hxg, hres⟩; rcases hres with ⟨hne, _⟩ | ⟨_, A9, n9, c9, rfl, hnc9, hr9⟩; exact absurd rfl hne; have HXG := Lib.hid hxg; have HR9 := Lib.hid hr9; clear hxg hr9))
  obtain ⟨z3, hz3⟩ : ∃ z3, wg.heap.size = z3 := ⟨_, rfl⟩
  obtain ⟨w9, hw9⟩ : ∃ w9, wg.alloc (.cells #[.int .i64 500, .int .i64 10, .slice A9 n9 c9] 27) = w9 := ⟨_, rfl⟩
  have hx9 : Ext wg w9 := by rw [← hw9]; exact (Ext.refl wg).alloc _
  have hb9 : w9.heap[z3]? = some (.cells #[.int .i64 500, .int .i64 10, .slice A9 n9 c9] 27 (0, 0)) := by rw [← hw9, ← hz3]; exact heap_alloc_new _ _
  rw [hw9, hz3]
  have hx09 := HX08.out.trans (HXG.out.trans hx9)
  have hB09 := (hx09.block _ (lt_of_block HB0.out)).trans HB0.out
  have HX09 := Lib.hid (HX0.out.trans hx09)
  have HR10 := Lib.hid (Lay.row_ext HR9.out hx9)
  have d0 := cell_of hb9 (i := 0) rfl
  have d1 := cell_of hb9 (i := 1) rfl
  have d2 := cell_of hb9 (i := 2) rfl
  have k0 := cell_of hB09 (i := 0) rfl
  have k1 := cell_of hB09 (i := 1) rfl
  have k2 := cell_of hB09 (i := 2) rfl
  have f0 := frozen_of hB09 0
  have f1 := frozen_of hB09 1
  have f2 := frozen_of hB09 2
  have HB09 := Lib.hid hB09
  clear hx9 hb9 hx09 hB09 hw9 hz3 e0 e1 hg4 hw6 hg5 hw7 hz2 hw8
  go_wp2_with fail
  obtain ⟨Y, hY⟩ : ∃ Y, ((w9.setCell ⟨z0, 0, none⟩ (.int .i64 500)).setCell ⟨z0, 1, none⟩ (.int .i64 10)).setCell ⟨z0, 2, none⟩ (.slice A9 n9 c9) = Y := ⟨_, rfl⟩
  have hb : (((w9.setCell ⟨z0, 0, none⟩ (.int .i64 500)).setCell ⟨z0, 1, none⟩ (.int .i64 10)).setCell ⟨z0, 2, none⟩ (.slice A9 n9 c9)).heap[z0]? = some (.cells #[.int .i64 500, .int .i64 10, .slice A9 n9 c9] 27 (0, 0)) := heap_setCell_same _ z0 2 _ 27 _ (heap_setCell_same _ z0 1 _ 27 _ (heap_setCell_same _ z0 0 _ 27 _ HB09.out))
  have hz : w.heap.size ≤ z0 := by rw [HZ0.out]; exact Nat.le_refl _
  have hxY : Ext w (((w9.setCell ⟨z0, 0, none⟩ (.int .i64 500)).setCell ⟨z0, 1, none⟩ (.int .i64 10)).setCell ⟨z0, 2, none⟩ (.slice A9 n9 c9)) := ((HX09.out.setCell (p := ⟨z0, 0, none⟩) hz _).setCell (p := ⟨z0, 1, none⟩) hz _).setCell (p := ⟨z0, 2, none⟩) hz _
  have hrY : kSe.row (((w9.setCell ⟨z0, 0, none⟩ (.int .i64 500)).setCell ⟨z0, 1, none⟩ (.int .i64 10)).setCell ⟨z0, 2, none⟩ (.slice A9 n9 c9)) (fun _ => True) A9 n9 exB.secs := Lay.row_mono (Lay.row_keep HR10.out (by simp) fun j hj _ => by
    have hne : j ≠ z0 := by have := HX08.out.lt; have := lt_of_block HB0.out; omega
    rw [heap_setCell_other _ ⟨z0, 2, none⟩ j _ hne, heap_setCell_other _ ⟨z0, 1, none⟩ j _ hne, heap_setCell_other _ ⟨z0, 0, none⟩ j _ hne]) fun _ _ _ => trivial
  rw [hY] at hb hxY hrY ⊢
  have q0 := cell_of hb (i := 0) rfl
  have q1 := cell_of hb (i := 1) rfl
  have q2 := cell_of hb (i := 2) rfl
  refine bodyPost_ret (v := .tuple #[.agg #[.int .i64 500, .int .i64 10, .slice A9 n9 c9], .bool true]) (by simp [results, Tryz.results63, go_sem, q0, q1, q2]) rfl ?_
  exact ⟨A9, n9, c9, rfl, hnc9, hrY, hxY⟩
end Go.Proofs.YtdbnddmncbjobaaGreatDoor
