/- A row of the call's own from some element on: a queue, off whose front elements are taken. -/
import Derived.ArgAppend
import Derived.Test.YtdbnddmncbjobaaGreatDoorQao
namespace Go.Proofs.YtdbnddmncbjobaaGreatDoor
section
open Go Go.RowKit

variable {β : Type}
/-- The cells xs lie from a place of a block of its own on. -/
def rowQ (w : World) (base : Nat) (e : TypeId) (size : Nat) (v : Value) (n : Nat) (xs : List Value) : Prop :=
  xs.length = n * size ∧
  ((v = .slice none 0 0 ∧ n = 0) ∨
   ∃ g o cap cur, v = .slice (some ⟨g, o, none⟩) n cap ∧ base ≤ g ∧ w.heap[g]? = some (.cells cur e (0, 0)) ∧ n ≤ cap ∧ cap ≤ maxLen ∧ o + cap * size ≤ cur.size ∧ (cur.toList.drop o).take (n * size) = xs)
theorem rowQ_of {w : World} {base : Nat} {e : TypeId} {size : Nat} {v : Value} {n : Nat} {xs : List Value} (h : w.ownsRow base e size v n xs) : rowQ w base e size v n xs := by
  refine ⟨h.1, ?_⟩
  rcases h.2 with h | ⟨g, cap, cur, h1, h2, h3, h4, h5, h6, h7⟩
  · exact .inl h
  · exact .inr ⟨g, 0, cap, cur, h1, h2, h3, h4, h5, by omega, by simpa using h7⟩
theorem rowQ_cell {w : World} {base : Nat} {e : TypeId} {size g o n cap : Nat} {xs : List Value} (h : rowQ w base e size (.slice (some ⟨g, o, none⟩) n cap) n xs) : ∀ j u, xs[j]? = some u → w.cell? ⟨g, o + j, none⟩ = some u := by
  intro j u hu
  rcases h.2 with ⟨h, _⟩ | ⟨g', o', cap', cur, h1, h2, h3, h4, h5, h6, h7⟩
  · cases h
  · injection h1 with h1 _ _
    injection h1 with h1
    injection h1 with h1 h8 _
    subst h1 h8
    rw [← h7, List.getElem?_take] at hu
    split at hu
    · rw [List.getElem?_drop] at hu
      unfold World.cell?
      simp only [h3]
      simpa using hu
    · cases hu
theorem rowQ_append {P : Program} {w : World} {base : Nat} {t e : TypeId} {z : Value} {size bytes : Nat} (ht : P.underlying t = some (.slice e)) (hinfo : (P.info? e).map (fun i => (i.zero, i.size, i.bytes)) = some (some z, size, bytes))
    (hzs : z.cells.size = size) (hsz : 0 < size) {v : Value} {n : Nat} {xs : List Value} (hown : rowQ w base e size v n xs) {A : Option Addr} {m c : Nat} {news : List Value} (hl : news.length = m * size)
    (hA : 0 < m → ∃ b off, A = some ⟨b, off, none⟩ ∧ ∀ j u, news[j]? = some u → w.cell? ⟨b, off + j, none⟩ = some u) (h1 : ∀ u ∈ news, u.oneCell' = true)
    (h63 : n + m ≤ maxLen) (hbytes : (n + m) * bytes ≤ 140737488355328) (hbase : base ≤ w.heap.size) :
    ∃ A' c' w', (Builtin.append_ #[t, t] t #[v, .slice A m c]).run P w = .ok (.slice A' (n + m) c') w' ∧ rowQ w' base e size (.slice A' (n + m) c') (n + m) (xs ++ news) ∧ (∀ B, B ≤ base → Below B w w') ∧
      (∀ k, k < w.heap.size → v.ownBlock ≠ some k → w'.heap[k]? = w.heap[k]?) ∧ w.heap.size ≤ w'.heap.size ∧ (∀ j, (Value.slice A' (n + m) c').ownBlock = some j → v.ownBlock = some j ∨ w.heap.size ≤ j) := by
  by_cases h0 : m = 0
  · subst h0
    obtain rfl : news = [] := List.eq_nil_of_length_eq_zero (by simpa using hl)
    obtain ⟨i, hi, hz, hs, hb⟩ := info_parts hinfo
    obtain ⟨A', c', rfl, hr⟩ : ∃ A' c', v = .slice A' n c' ∧ (Builtin.append_ #[t, t] t #[v, .slice A 0 c]).run P w = .ok v w := by
      rcases hown.2 with ⟨rfl, rfl⟩ | ⟨g, o, cap, cur, rfl, _, _, hnc, _⟩
      · refine ⟨none, 0, rfl, ?_⟩
        rcases A with _ | ad
        · simp [Builtin.append_, run_underlying ht, sizeOf, typeInfo, hi, Builtin.lenOf, Builtin.firstCells]
        · have hl : (loadCells ad 0).run P w = .ok #[] w := by simpa using run_loadCells_list (P := P) w ad [] (by simp)
          simp [Builtin.append_, run_underlying ht, sizeOf, typeInfo, hi, Builtin.lenOf, Builtin.firstCells, hl]
      · refine ⟨some ⟨g, o, none⟩, cap, rfl, ?_⟩
        rcases A with _ | ad
        · simp [Builtin.append_, run_underlying ht, sizeOf, typeInfo, hi, Builtin.lenOf, Builtin.firstCells, hnc, storeCells]
        · have hl : (loadCells ad 0).run P w = .ok #[] w := by simpa using run_loadCells_list (P := P) w ad [] (by simp)
          simp [Builtin.append_, run_underlying ht, sizeOf, typeInfo, hi, Builtin.lenOf, Builtin.firstCells, hnc, storeCells, hl]
    exact ⟨A', c', w, hr, by simpa using hown, fun B _ => Below.refl B w, fun _ _ _ => rfl, Nat.le_refl _, fun j hj => .inl hj⟩
  obtain ⟨b, off, rfl, hcell⟩ := hA (by omega)
  rcases hown.2 with ⟨rfl, rfl⟩ | ⟨g, o, cap, cur, rfl, hbg, hg, hnc, hcm, hcs, htake⟩
  · obtain rfl : xs = [] := List.eq_nil_of_length_eq_zero (by simpa using hown.1)
    obtain ⟨A', c', w', r1, r2, r3, r4, r5⟩ := run_append_src5 (P := P) (t := t) ht hinfo hzs hsz (World.ownsRow_nil w base e size) (A := some ⟨b, off, none⟩) (m := m) (c := c) (news := news) hl (fun _ => ⟨b, off, rfl, hcell⟩) h1 (by simpa using h63) (by simpa using hbytes) hbase
    refine ⟨A', c', w', r1, rowQ_of r2, r3, fun k hk hne => r4 k hk (fun a => by simp), (r3 base (Nat.le_refl _)).size, fun j hj => ?_⟩
    rcases r5 with r5 | r5
    · exact .inl (r5.symm.trans hj)
    · rw [r5] at hj; injection hj with hj; exact .inr (by omega)
  · obtain ⟨i, hi, hz, hs, hb⟩ := info_parts hinfo
    by_cases hroom : n + m ≤ cap
    · subst hs
      have hfit : o + n * i.size + news.length ≤ cur.size := by
        have : (n + m) * i.size ≤ cap * i.size := Nat.mul_le_mul_right _ hroom
        rw [Nat.add_mul] at this
        omega
      have hlo := hown.1
      have hf := run_firstCells_some (P := P) w i.size m ⟨b, off, none⟩ m c news hl (fun j u hu => by rw [Addr.add_lit]; exact hcell j u hu)
      have hst := run_storeCells_at P g (o + n * i.size) e news 0 cur w hg (by simpa using hfit) h1
      simp only [Nat.add_zero] at hst
      have hr : (Builtin.append_ #[t, t] t #[.slice (some ⟨g, o, none⟩) n cap, .slice (some ⟨b, off, none⟩) m c]).run P w = .ok (.slice (some ⟨g, o, none⟩) (n + m) cap) (w.setRow g (cur.toList.take (o + n * i.size) ++ news ++ cur.toList.drop (o + n * i.size + news.length)).toArray) := by
        simp [Builtin.append_, run_underlying ht, sizeOf, typeInfo, hi, Builtin.lenOf, hroom, hf, Addr.add_lit, hst]
      refine ⟨_, _, _, hr, ⟨by rw [List.length_append, hlo, hl, Nat.add_mul], .inr ⟨g, o, cap, _, rfl, hbg, setRow_heap w g cur _ e _ hg, hroom, hcm, ?_, ?_⟩⟩, fun B hB => ⟨rfl, rfl, rfl, by simp [World.setRow], fun k hk => setRow_other w g k _ (by omega)⟩, fun k hk hne => setRow_other w g k _ (fun e => hne (by simp [Value.ownBlock, e])), by simp [World.setRow], fun j hj => .inl hj⟩
      · simp only [List.size_toArray, List.length_append, List.length_take, List.length_drop, Array.length_toList]
        omega
      · have h2 : (cur.toList.take (o + n * i.size)).drop o = xs := by rw [List.drop_take, show o + n * i.size - o = n * i.size by omega]; exact htake
        have h3 : (cur.toList.take (o + n * i.size)).length = o + n * i.size := by rw [List.length_take, Array.length_toList]; omega
        rw [List.append_assoc, List.drop_append, h2, h3, show o - (o + n * i.size) = 0 by omega, List.drop_zero, ← List.append_assoc, List.take_append, List.take_of_length_le (by rw [List.length_append, hlo, hl, Nat.add_mul]; omega),
          List.length_append, hlo, hl, Nat.add_mul, Nat.sub_self, List.take_zero, List.append_nil]
    · obtain ⟨v', w', r1, r2, r3⟩ := run_append_arg_grows (P := P) w t t e i z size bytes ht hi hz hs hb hzs hsz ⟨g, o, none⟩ n cap xs hown.1 (fun j u hu => by rw [Addr.add_lit]; exact rowQ_cell hown j u hu) ⟨b, off, none⟩ m c news hl (fun j u hu => by rw [Addr.add_lit]; exact hcell j u hu) (by omega) h63 hbytes
      obtain ⟨A', c', rfl, _, _⟩ := own_form r2
      refine ⟨A', c', w', r1, ?_, fun B hB => ?_, fun k hk hne => r3.block k hk (by simp), r3.size, fun j hj => .inr (r2.lt j hj).1⟩
      · have := rowQ_of r2
        refine ⟨this.1, ?_⟩
        rcases this.2 with h | ⟨g', o', cap', cur', h1, h2, h3⟩
        · exact .inl h
        · exact .inr ⟨g', o', cap', cur', h1, Nat.le_trans hbase h2, h3⟩
      · exact (Below.refl B w).grown r3 (Nat.le_trans hB hbase) (fun k hk => by cases hk)
/-- A queue: the slice v holds the elements xs in a row of the call's own, from some place on. -/
def Lay.que (k : Lay β) (e : TypeId) (W : World) (base : Nat) (P : Nat → Prop) (v : Value) (xs : List β) : Prop :=
  ∃ ds : List (Cs k.sz), rowQ W base e k.sz v ds.length (gcells ccf ds) ∧ ds.length = xs.length ∧ ∀ (i : Nat) (d : Cs k.sz) (x : β), ds[i]? = some d → xs[i]? = some x → k.rep W (fun j => P j ∧ v.ownBlock ≠ some j) x d.1
theorem Lay.que_nil (k : Lay β) (e : TypeId) (W : World) (base : Nat) (P : Nat → Prop) : k.que e W base P (.slice none 0 0) [] := ⟨[], ⟨by simp [gcells], .inl ⟨rfl, rfl⟩⟩, rfl, fun i d x hd => by simp at hd⟩
theorem rowQ_lt {w : World} {base : Nat} {e : TypeId} {size : Nat} {v : Value} {n : Nat} {xs : List Value} (h : rowQ w base e size v n xs) : ∀ j, v.ownBlock = some j → base ≤ j ∧ j < w.heap.size := by
  intro j hj
  rcases h.2 with ⟨rfl, _⟩ | ⟨g, o, cap, cur, rfl, h1, h2, _⟩
  · cases hj
  · injection hj with hj
    subst hj
    exact ⟨h1, lt_of_block h2⟩
theorem Lay.que_lt {k : Lay β} {e : TypeId} {W : World} {base : Nat} {P : Nat → Prop} {v : Value} {xs : List β} (h : k.que e W base P v xs) : ∀ j, v.ownBlock = some j → base ≤ j ∧ j < W.heap.size := by
  obtain ⟨ds, h1, _⟩ := h
  exact rowQ_lt h1
theorem Lay.que_keep {k : Lay β} {e : TypeId} {W W' : World} {base : Nat} {P : Nat → Prop} {v : Value} {xs : List β} (h : k.que e W base P v xs) (hs : W.heap.size ≤ W'.heap.size) (hk : ∀ j, (P j ∨ v.ownBlock = some j) → j < W.heap.size → W'.heap[j]? = W.heap[j]?) : k.que e W' base P v xs := by
  have hlt := Lay.que_lt h
  obtain ⟨ds, h1, h2, h3⟩ := h
  refine ⟨ds, ⟨h1.1, ?_⟩, h2, fun i d x hd hx => k.keep (h3 i d x hd hx) hs fun j hj hl => hk j (.inl hj.1) hl⟩
  rcases h1.2 with h | ⟨g, o, cap, cur, rfl, h4, h5, h6⟩
  · exact .inl h
  · exact .inr ⟨g, o, cap, cur, rfl, h4, by rw [hk g (.inr rfl) (lt_of_block h5)]; exact h5, h6⟩
theorem Lay.que_ext {k : Lay β} {e : TypeId} {W W' : World} {base : Nat} {P : Nat → Prop} {v : Value} {xs : List β} (h : k.que e W base P v xs) (hx : Ext W W') : k.que e W' base P v xs := Lay.que_keep h hx.lt fun j _ hj => hx.block j hj
theorem Lay.que_len {k : Lay β} {e : TypeId} {W : World} {base : Nat} {P : Nat → Prop} {v : Value} {xs : List β} (h : k.que e W base P v xs) : ∃ A c, v = .slice A xs.length c ∧ xs.length ≤ c ∧ c ≤ maxLen := by
  obtain ⟨ds, h1, h2, _⟩ := h
  rw [h2] at h1
  rcases h1.2 with ⟨rfl, h⟩ | ⟨g, o, cap, cur, rfl, _, _, h5, h6, _⟩
  · exact ⟨none, 0, by rw [h], by omega, by simp [maxLen]⟩
  · exact ⟨_, cap, rfl, h5, h6⟩
/-- A queue as a row. -/
theorem Lay.que_row {k : Lay β} {e : TypeId} {W : World} {base : Nat} {P : Nat → Prop} {A : Option Addr} {n c : Nat} {xs : List β} (h : k.que e W base P (.slice A n c) xs) : k.row W (fun j => P j ∨ (Value.slice A n c).ownBlock = some j) A n xs := by
  have hlt := Lay.que_lt h
  obtain ⟨ds, h1, h2, h3⟩ := h
  have hn : n = ds.length := by
    rcases h1.2 with ⟨h4, h5⟩ | ⟨g, o, cap, cur, h4, _⟩
    · injection h4 with _ h6 _; omega
    · injection h4 with _ h6 _
  subst hn
  refine ⟨ds, h2, h2, ⟨rfl, fun h0 => ?_⟩, fun x hx => ?_, fun i d x hd hx => k.mono (h3 i d x hd hx) fun j hj _ => .inl hj.1⟩
  · rcases h1.2 with ⟨h4, h5⟩ | ⟨g, o, cap, cur, h4, h6, h7, _⟩
    · omega
    · injection h4 with h4 _ h8
      subst h4 h8
      refine ⟨g, o, rfl, lt_of_block h7, fun i d hi j u hu => ?_⟩
      have hj : j < k.sz := by rw [← ccf_len d]; exact (List.getElem?_eq_some_iff.1 hu).1
      have := rowQ_cell h1 (i * k.sz + j) u ((gcells_at ccf_len ds i d hi j hj).trans hu)
      rw [Nat.add_assoc]; exact this
  · subst hx
    exact ⟨.inr rfl, (hlt x.block rfl).2⟩
/-- append of a row that lies in memory. -/
theorem Lay.que_append {k : Lay β} {Pr : Program} {t e : TypeId} {z : Value} {bytes : Nat} (ht : Pr.underlying t = some (.slice e)) (hinfo : (Pr.info? e).map (fun i => (i.zero, i.size, i.bytes)) = some (some z, k.sz, bytes)) (hzs : z.cells.size = k.sz) (hsz : 0 < k.sz) (hby : bytes ≤ 1000)
    {W : World} {base : Nat} {R : Nat → Prop} {v : Value} {xs : List β} (h : k.que e W base R v xs) {A : Option Addr} {m : Nat} {ys : List β} (hr : k.row W (fun j => R j ∧ v.ownBlock ≠ some j) A m ys) (c : Nat) (hm : xs.length + m ≤ 100000000) (hbase : base ≤ W.heap.size) :
    ∃ A' c' w', (Builtin.append_ #[t, t] t #[v, .slice A m c]).run Pr W = .ok (.slice A' (xs.length + m) c') w' ∧ k.que e w' base R (.slice A' (xs.length + m) c') (xs ++ ys) ∧ (∀ B, B ≤ base → Below B W w') ∧
      (∀ j, j < W.heap.size → v.ownBlock ≠ some j → w'.heap[j]? = W.heap[j]?) ∧ W.heap.size ≤ w'.heap.size ∧ (∀ j, (Value.slice A' (xs.length + m) c').ownBlock = some j → v.ownBlock = some j ∨ W.heap.size ≤ j) := by
  obtain ⟨ds, h1, h2, h3⟩ := h
  obtain ⟨ds', e1, hl, ⟨e2, hs⟩, hb, hrep⟩ := hr
  subst e2
  obtain ⟨A', c', w', r1, r2, r3, r4, r5, r6⟩ := rowQ_append (P := Pr) (t := t) ht hinfo hzs hsz h1 (A := A) (m := ds'.length) (c := c) (news := gcells ccf ds') (gcells_len ccf_len ds')
    (fun h0 => by
      obtain ⟨b, off, rfl, _, hc⟩ := hs h0
      refine ⟨b, off, rfl, fun j u hu => ?_⟩
      have hj : j < ds'.length * k.sz := by rw [← gcells_len (cf := ccf) ccf_len]; exact (List.getElem?_eq_some_iff.1 hu).1
      have hjs : j / k.sz < ds'.length := Nat.div_lt_of_lt_mul (by rw [Nat.mul_comm]; exact hj)
      have e : j = j / k.sz * k.sz + j % k.sz := by rw [Nat.mul_comm]; exact (Nat.div_add_mod j k.sz).symm
      have hmod : j % k.sz < k.sz := Nat.mod_lt _ hsz
      rw [e, gcells_at ccf_len ds' (j / k.sz) _ (List.getElem?_eq_getElem hjs) (j % k.sz) hmod] at hu
      have := hc (j / k.sz) _ (List.getElem?_eq_getElem hjs) (j % k.sz) u hu
      rw [Nat.add_assoc, ← e] at this
      exact this)
    (gcells_one ccf_one ds') (by simp only [maxLen]; omega) (Nat.le_trans (Nat.mul_le_mul (by omega) hby) (by omega : 100000000 * 1000 ≤ _)) hbase
  rw [h2] at r1 r2 r6
  refine ⟨A', c', w', r1, ⟨ds ++ ds', ?_, by simp [h2, hl], fun i d x hd hx => ?_⟩, r3, r4, r5, r6⟩
  · rw [List.length_append, h2, gcells_append]; exact r2
  · have hall : k.rep W (fun j => R j ∧ v.ownBlock ≠ some j) x d.1 := by
      rw [List.getElem?_append] at hd hx
      rw [h2] at hd
      split at hd
      · next hi => rw [if_pos hi] at hx; exact h3 i d x hd hx
      · next hi => rw [if_neg hi] at hx; exact hrep _ d x hd hx
    have h4 := k.mono (Q := fun j => R j ∧ v.ownBlock ≠ some j ∧ j < W.heap.size) hall fun j hj hl => ⟨hj.1, hj.2, hl⟩
    exact k.mono (k.keep h4 r5 fun j hj hl => r4 j hl hj.2.1) fun j hj _ => ⟨hj.1, fun e => by
      rcases r6 j e with h7 | h7
      · exact hj.2.1 h7
      · have := hj.2.2; omega⟩
/-- The front is taken off a queue. -/
theorem Lay.que_drop {k : Lay β} {e : TypeId} {W : World} {base : Nat} {R : Nat → Prop} {g o n c : Nat} {xs : List β} (h : k.que e W base R (.slice (some ⟨g, o, none⟩) n c) xs) (i : Nat) (hi : i ≤ n) : k.que e W base R (.slice (some ⟨g, o + i * k.sz, none⟩) (n - i) (c - i)) (xs.drop i) := by
  obtain ⟨ds, h1, h2, h3⟩ := h
  rcases h1.2 with ⟨h4, _⟩ | ⟨g', o', cap, cur, h4, h5, h6, h7, h8, h9, h10⟩
  · cases h4
  · injection h4 with h4 hn hc
    injection h4 with h4
    injection h4 with hg ho _
    subst hg ho hn hc
    have hi' : i * k.sz ≤ c * k.sz := Nat.mul_le_mul_right _ (by omega)
    refine ⟨ds.drop i, ⟨gcells_len ccf_len _, .inr ⟨g, o + i * k.sz, c - i, cur, by rw [List.length_drop], h5, h6, by rw [List.length_drop]; omega, by omega, by rw [Nat.sub_mul]; omega, ?_⟩⟩, by simp [h2], fun j d x hd hx => ?_⟩
    · have e1 : gcells ccf (ds.drop i) = (gcells ccf ds).drop (i * k.sz) := by
        have := gcells_append (cf := ccf) (ds.take i) (ds.drop i)
        rw [List.take_append_drop] at this
        have h11 : (gcells ccf (ds.take i)).length = i * k.sz := by rw [gcells_len ccf_len, List.length_take, Nat.min_eq_left hi]
        rw [this, ← h11, List.drop_left]
      rw [e1, ← h10, List.drop_take, List.drop_drop, List.length_drop, Nat.sub_mul]
    · rw [List.getElem?_drop] at hd hx
      exact h3 _ d x hd hx
end
section
open Go Go.RowKit

theorem row_zero' {β : Type} {k : Lay β} {W : World} {P : Nat → Prop} {b o : Nat} {n : Nat} {xs : List β} (h : k.row W P (some ⟨b, o, none⟩) n xs) (o' : Nat) : k.row W P (some ⟨b, o', none⟩) 0 [] := by
  obtain ⟨ds, _, _, _, h4, _⟩ := h
  exact ⟨[], rfl, rfl, ⟨rfl, fun h => absurd h (Nat.lt_irrefl _)⟩, fun x hx => by injection hx with hx; subst hx; exact h4 ⟨b, o, none⟩ rfl, fun i d x hd => by simp at hd⟩
theorem que_form {β : Type} {k : Lay β} {e : TypeId} {W : World} {base : Nat} {P : Nat → Prop} {A : Option Addr} {n c : Nat} {xs : List β} (h : k.que e W base P (.slice A n c) xs) : (A = none ∧ n = 0 ∧ c = 0) ∨ ∃ g o, A = some ⟨g, o, none⟩ := by
  obtain ⟨ds, h1, _⟩ := h
  rcases h1.2 with ⟨h2, _⟩ | ⟨g, o, cap, cur, h2, _⟩
  · injection h2 with e1 e2 e3; exact .inl ⟨e1, e2, e3⟩
  · injection h2 with e1 e2 e3; exact .inr ⟨g, o, e1⟩
theorem que_empty' {β : Type} {k : Lay β} {e : TypeId} {W : World} {base : Nat} {R : Nat → Prop} {g o n c : Nat} {xs : List β} (h : k.que e W base R (.slice (some ⟨g, o, none⟩) n c) xs) : k.que e W base R (.slice (some ⟨g, o, none⟩) 0 0) [] := by
  obtain ⟨ds, h1, h2, h3⟩ := h
  rcases h1.2 with ⟨h4, _⟩ | ⟨g', o', cap, cur, h4, h5, h6, h7, h8, h9, h10⟩
  · cases h4
  · injection h4 with h4 hn hc
    injection h4 with h4
    injection h4 with hg ho _
    subst hg ho hn hc
    exact ⟨[], ⟨by simp [gcells], .inr ⟨g, o, 0, cur, rfl, h5, h6, Nat.le_refl _, by omega, by omega, by simp [gcells]⟩⟩, rfl, fun i d x hd => by simp at hd⟩
theorem slice_lo (b o n c l : Nat) (hl : l ≤ n) (hn : n ≤ c) (W : World) : (Instr.sliceAt 82 (.slice (some ⟨b, o, none⟩) n c) (some (.int .i64 (l : Int))) none none).run Tryz.prog W = .ok (.slice (some ⟨b, if c = l then o else o + l * 4, none⟩) (n - l) (c - l)) W := by
  have h1 : (l : Int) ≤ (n : Int) := by omega
  have h2 : (l : Int) ≤ (c : Int) := by omega
  by_cases h : c = l
  · subst h
    have : n = c := by omega
    subst this
    go_simp
  · rw [if_neg h]
    have h3 : ¬ l = c := fun e => h e.symm
    go_simp
theorem slice_lo_nil (W : World) : (Instr.sliceAt 82 (.slice none 0 0) (some (.int .i64 0)) none none).run Tryz.prog W = .ok (.slice none 0 0) W := by
  go_simp
theorem body_cut {W : World} {P : Nat → Prop} {b o nb cb : Nat} {bd : List Ln} (h : kLn.row W P (some ⟨b, o, none⟩) nb bd) (hc : nb ≤ cb) (l : Nat) (hl : l ≤ nb) : ∃ o' cb', nb - l ≤ cb' ∧ kLn.row W P (some ⟨b, o', none⟩) (nb - l) (bd.drop l) ∧
    ∀ X, (Instr.sliceAt 82 (.slice (some ⟨b, o, none⟩) nb cb) (some (.int .i64 (l : Int))) none none).run Tryz.prog X = .ok (.slice (some ⟨b, o', none⟩) (nb - l) cb') X := by
  refine ⟨_, _, ?_, ?_, slice_lo b o nb cb l hl hc⟩
  · omega
  · by_cases hcb : cb = l
    · rw [if_pos hcb, List.drop_of_length_le (by have := Lay.row_len h; omega), show nb - l = 0 by omega]
      exact row_zero' h o
    · rw [if_neg hcb]
      exact Lay.row_drop h l
theorem que_cut {W : World} {base : Nat} {P : Nat → Prop} {A : Option Addr} {c : Nat} {q : List Ln} (h : kLn.que 86 W base P (.slice A q.length c) q) (s : Nat) (hs : s ≤ q.length) (hc : q.length ≤ c) : ∃ A' c', kLn.que 86 W base P (.slice A' (q.drop s).length c') (q.drop s) ∧ (∀ j, (Value.slice A' (q.drop s).length c').ownBlock = some j → (Value.slice A q.length c).ownBlock = some j) ∧
    ∀ X, (Instr.sliceAt 82 (.slice A q.length c) (some (.int .i64 (s : Int))) none none).run Tryz.prog X = .ok (.slice A' (q.drop s).length c') X := by
  rcases que_form h with ⟨rfl, h0, rfl⟩ | ⟨g, o, rfl⟩
  · have hq := List.eq_nil_of_length_eq_zero h0
    subst hq
    obtain rfl : s = 0 := by simpa using hs
    exact ⟨none, 0, Lay.que_nil _ _ _ _ _, fun j hj => hj, slice_lo_nil⟩
  · refine ⟨some ⟨g, if c = s then o else o + s * 4, none⟩, c - s, ?_, fun j hj => hj, fun X => by rw [List.length_drop]; exact slice_lo g o q.length c s hs hc X⟩
    by_cases hcs : c = s
    · subst hcs
      rw [if_pos rfl, List.drop_of_length_le (by omega), Nat.sub_self]
      exact que_empty' h
    · rw [if_neg hcs, List.length_drop]
      exact Lay.que_drop h s hs
end
section
open Go Go.RowKit

theorem own_wd {e : TypeId} {W : World} {base : Nat} {P Q : Nat → Prop} {v : Value} {xs : List Wd} (h : kWd.own e W base P v xs) : kWd.own e W base Q v xs := by
  obtain ⟨ds, h1, h2, h3⟩ := h
  exact ⟨ds, h1, h2, fun i d x hd hx => kWd_rep.2 (kWd_rep.1 (h3 i d x hd hx))⟩
theorem row_wd {W : World} {P : Nat → Prop} {A : Option Addr} {n : Nat} {xs : List Wd} (h : kWd.row W P A n xs) : kWd.row W (fun _ => True) A n xs := Lay.row_mono h fun _ _ _ => True.intro
theorem info60c : (Tryz.prog.info? 60).map (fun i => (i.zero, i.size, i.bytes)) = some (some (Value.agg #[.string ⟨#[]⟩, .string ⟨#[]⟩, .int .i64 0, .int .i64 0]), 4, 48) := by kernel_rfl
set_option maxHeartbeats 4000000 in
set_option maxRecDepth 100000 in
theorem wclone_any (P Q : Nat → Prop) (w : World) (A : Option Addr) (n c : Nat) (xs : List Wd) (h : kWd.row w P A n xs) (hn : n ≤ 1000000) :
    Calls Tryz.prog 150 #[.slice A n c] w (fun e w' => ∃ A' c', e = .returned (.slice A' n c') ∧ n ≤ c' ∧ kWd.own 60 w' w.heap.size Q (.slice A' n c') xs ∧ Ext w w') := by
  have hl := Lay.row_len h
  cases A with
  | none =>
    have h0 : n = 0 := by
      obtain ⟨ds, h1, h2, h3, _⟩ := h
      rcases Nat.eq_zero_or_pos n with h | h
      · exact h
      · obtain ⟨b, off, e, _⟩ := h3.2 h; cases e
    have hx : xs = [] := List.eq_nil_of_length_eq_zero (by omega)
    subst h0 hx
    clear h hl
    have q54 := fun (w : World) (a : Option Addr) (n c n' c' : Nat) => Lib.run_eql_slice_nil (P := Tryz.prog) w _ _ a n c n' c' Tryz.underlying54
    go_enter Tryz.func150, Tryz.ntmps150
    go_wp2_with fail
    go_ret
    exact ⟨none, 0, rfl, Nat.le_refl _, Lay.own_nil _ _ _ _ _, Ext.refl _⟩
  | some a =>
    have ho0 : kWd.own 60 (w.alloc (.cells #[] 60)) w.heap.size (fun _ => True) (.slice (some ⟨w.heap.size, 0, none⟩) 0 0) [] :=
      ⟨[], ⟨by simp [gcells], .inr ⟨w.heap.size, 0, #[], rfl, Nat.le_refl _, heap_alloc_new w _, Nat.le_refl _, by simp [maxLen], by simp, by simp [gcells]⟩⟩, rfl, fun i d x hd => by simp at hd⟩
    obtain ⟨A', c', w', hrun, ho, hx⟩ := own_app (Pr := Tryz.prog) (t := 54) (k := kWd) Tryz.underlying54 info60c rfl (by decide) (by omega) ho0 ((Ext.refl w).alloc _) (row_wd h) c (by simp; omega)
    rw [List.nil_append] at ho
    simp only [List.length_nil, Nat.zero_add] at hrun ho
    have hlen : n ≤ c' := by
      obtain ⟨A9, c9, e9, h9, _⟩ := Lay.own_row ho
      have : c' = c9 := by injection e9
      omega
    have HRUN := Lib.hid hrun
    have HO := Lib.hid ho
    have HX := Lib.hid hx
    clear h hl ho0 hrun ho hx
    have q54 := fun (w : World) (a : Option Addr) (n c n' c' : Nat) => Lib.run_eql_slice_nil (P := Tryz.prog) w _ _ a n c n' c' Tryz.underlying54
    go_enter Tryz.func150, Tryz.ntmps150
    go_wp2_with (first | (at_builtin; refine wpList_append_run (s := .tmp 5) (x := .tmp 6) HRUN.out rfl rfl rfl rfl rfl ?_))
    go_ret
    exact ⟨A', c', rfl, hlen, own_wd HO.out, HX.out⟩
def PtR (w : World) (ps : List (List Wd)) (s3 s8 : Value) (w' : World) : Prop := ∃ i : Nat, i ≤ ps.length ∧ s8 = .int .i64 i ∧ Ext w w' ∧ kWs.own 54 w' w.heap.size (fun j => w.heap.size ≤ j) s3 (ps.take i)
set_option maxHeartbeats 4000000 in
set_option maxRecDepth 100000 in
theorem parts_any (P : Nat → Prop) (w : World) (A : Option Addr) (n c : Nat) (ps : List (List Wd)) (h : kWs.row w P A n ps) (hn : n ≤ 1000000) (hp : ∀ p ∈ ps, p.length ≤ 1000000) :
    Calls Tryz.prog 132 #[.slice A n c] w (fun e w' => ∃ A' c', e = .returned (.slice A' n c') ∧ n ≤ c' ∧ kWs.own 54 w' w.heap.size (fun j => w.heap.size ≤ j) (.slice A' n c') ps ∧ Ext w w') := by
  have HL := Lib.hid (Lay.row_len h)
  have HR := Lib.hid h
  have HP := Lib.hid hp
  clear h hp
  go_enter Tryz.func132, Tryz.ntmps132
  go_wp2_with fail
  go_loopw [3, 8] (fun s3 s8 w' => PtR w ps s3 s8 w') (fun _ s8 _ => toM n s8)
  case atStart => exact ⟨0, by omega, rfl, Ext.refl _, Lay.own_nil _ _ _ _ _⟩
  case round =>
    obtain ⟨i, hi, rfl, hx, ho⟩ := hrel
    have HX := Lib.hid hx
    have HO := Lib.hid ho
    clear hx ho
    by_cases hlt : i < n
    case neg =>
      obtain rfl : n = i := by have := HL.out; omega
      have hni : ¬ ((n : Int) < (n : Int)) := by omega
      obtain ⟨A9, c9, rfl, hc9, _⟩ := Lay.own_row HO.out
      rw [List.take_of_length_le (by have := HL.out; omega)] at HO hc9
      go_wp2_with fail
      go_ret
      have e9 : (List.take n ps).length = n := by rw [List.length_take]; have := HL.out; omega
      have e8 : ps.length = n := HL.out.symm
      rw [e8] at HO hc9
      exact ⟨A9, c9, by rw [← e9]; rfl, hc9, HO.out, HX.out⟩
    have hI : (i : Int) < (n : Int) := by omega
    obtain ⟨p, hp⟩ : ∃ p, ps[i]? = some p := ⟨_, List.getElem?_eq_getElem (by have := HL.out; omega)⟩
    obtain ⟨b0, off, cs, rfl, hb0, _, hrep, hcell⟩ := Lay.row_at (Lay.row_ext HR.out HX.out) hp
    obtain ⟨Ap, cp, rfl, hcp, hrp⟩ := kWs_rep.1 hrep
    have hce := hcell 0 _ rfl
    rw [kWs_sz, Nat.mul_one, Nat.add_zero] at hce
    have HCL := Lib.hid (wclone_any P (fun _ => True) wr Ap p.length cp p hrp (HP.out p (List.mem_of_getElem? hp)))
    have HPI := Lib.hid hp
    clear hrep hrp hcell hp
    go_wp2_with fail
    refine HCL.out.mono ?_
    rintro e w2 ⟨Ac, cc, rfl, hcc, hoc, hx2⟩
    have hlto := Lay.own_lt HO.out
    obtain ⟨Ax, cx, e9, _, hrow⟩ := own_rowN (P := fun _ => False) (Q := fun j => wr.heap.size ≤ j) (own_wd hoc) (fun j hj _ => hj.elim) (fun j hj _ => hj)
    have e9a : Ac = Ax := by injection e9
    rw [← e9a] at hrow
    have hll : (ps.take i).length ≤ 1000000 := by rw [List.length_take]; omega
    obtain ⟨PL, hPL⟩ : ∃ PL, ps.take i = PL := ⟨_, rfl⟩
    rw [hPL] at hll
    have hoE := Lay.own_ext HO.out hx2
    rw [hPL] at hoE
    obtain ⟨A9, c9, w9, hrun, ho9, hb9, hk9, hs9, hn9⟩ := own_app1 (k := kWs) (Pr := Tryz.prog) (t := 51) Tryz.underlying51 info54 rfl (by decide) (by omega) hoE (Nat.le_trans HX.out.lt hx2.lt) (cs := #[.slice Ac p.length cc]) (T := 54) (x := p) (kWs_rep.2 ⟨Ac, cc, rfl, hcc, Lay.row_mono hrow fun j hj _ => ⟨Nat.le_trans HX.out.lt hj, fun e => by have := (hlto j e).2; omega⟩⟩) 1 (by omega)
    have HRUN := Lib.hid hrun
    have HREL := Lib.hid (show PtR w ps (.slice A9 (PL.length + 1) c9) (.int .i64 ((i : Int) + 1)) w9 from ⟨i + 1, by have := HL.out; omega, by simp, Below.trans (HX.out.trans hx2) (hb9 _ (Nat.le_refl _)), by rw [List.take_add_one, HPI.out, hPL]; exact ho9⟩)
    clear hrun ho9 hb9 hk9 hs9 hn9 hrow hoc hx2 hlto hll e9 e9a hoE hPL
    go_wp2_with (first | (at_builtin; refine wpList_append_run (s := .tmp 12) (x := .tmp 15) HRUN.out rfl rfl rfl rfl rfl ?_))
    go_roundw
    case rel => exact HREL.out
    case measure => simp only [toM]; omega
end
section

/-- What a page under way holds is in order. -/
structure FillI (h : Int) (q : List Ln) (lines : Nat) (shown : Int) : Prop where
  pos : 0 ≤ shown
  le : shown ≤ q.length
  one : q ≠ [] → 1 ≤ shown
  room : 0 ≤ roomP h lines shown
theorem fillP_step {h : Int} {notes : List (List Ln)} {x : Ln} {q : List Ln} {lines : Nat} {shown : Int} (hi : FillI h q lines shown) (hf : fitsP h q x lines shown = true) :
    FillI h (q ++ notesOf notes x) (lines + 1) (showP h (q ++ notesOf notes x) (lines + 1) shown) ∧ shown ≤ showP h (q ++ notesOf notes x) (lines + 1) shown := by
  obtain ⟨h1, h2, h3, h4⟩ := hi
  have hq : q = [] ∧ q.length = 0 ∨ q ≠ [] ∧ 0 < q.length := by
    cases q with
    | nil => exact .inl ⟨rfl, rfl⟩
    | cons a b => exact .inr ⟨by simp, by simp⟩
  have hnil : x.nts = [] → (notesOf notes x).length = 0 := fun e => by unfold notesOf; rw [e]; rfl
  have hex : (q ++ notesOf notes x).length = q.length + (notesOf notes x).length := List.length_append
  have happ : q ++ notesOf notes x ≠ [] → 0 < q.length + (notesOf notes x).length := fun e => by rw [← hex]; exact List.length_pos_iff.2 e
  unfold fitsP at hf
  unfold showP
  have key : ∀ M : Int, (M = (((q ++ notesOf notes x).length : Int) - shown) ∨ M = roomP h (lines + 1 : Nat) shown - 1 + min shown 1) → M ≤ ((q ++ notesOf notes x).length : Int) - shown → M ≤ roomP h (lines + 1 : Nat) shown - 1 + min shown 1 → 0 < ((q ++ notesOf notes x).length : Int) - shown →
      FillI h (q ++ notesOf notes x) (lines + 1) (shown + M) ∧ shown ≤ shown + M := by
    intro M hM hM1 hM2 hpos
    rw [hex] at hM hM1 hpos
    have e1 : roomP h (lines + 1 : Nat) shown = roomP h lines shown - 1 := by unfold roomP; omega
    rw [e1] at hM hM2
    by_cases hx : x.nts = []
    · rw [if_pos hx] at hf
      have hf := of_decide_eq_true hf
      rw [hnil hx] at *
      rcases hq with ⟨_, hq⟩ | ⟨hq0, hq⟩
      · omega
      · have := h3 hq0
        refine ⟨⟨by omega, by rw [hex, hnil hx]; omega, fun _ => by omega, ?_⟩, by omega⟩
        unfold roomP at *; omega
    · rw [if_neg hx] at hf
      have hf := of_decide_eq_true hf
      refine ⟨⟨by omega, by rw [hex]; omega, fun _ => by omega, ?_⟩, by omega⟩
      unfold roomP at *; omega
  by_cases hm : 0 < ((q ++ notesOf notes x).length : Int) - shown
  · rw [if_pos hm]
    exact key _ (by omega) (by omega) (by omega) hm
  · rw [if_neg hm]
    refine ⟨⟨h1, by rw [hex]; omega, fun e => ?_, ?_⟩, Int.le_refl _⟩
    · have := happ e
      rw [hex] at hm
      omega
    · by_cases hx : x.nts = []
      · rw [if_pos hx] at hf
        have hf := of_decide_eq_true hf
        unfold roomP at *; omega
      · rw [if_neg hx] at hf
        have hf := of_decide_eq_true hf
        unfold roomP at *; omega
theorem fillP_ok (h : Int) (notes : List (List Ln)) : ∀ (body q : List Ln) (lines : Nat) (shown : Int), FillI h q lines shown →
    FillI h (fillP h notes body q lines shown).2.1 (fillP h notes body q lines shown).1 (fillP h notes body q lines shown).2.2 ∧
    lines ≤ (fillP h notes body q lines shown).1 ∧ (fillP h notes body q lines shown).1 ≤ lines + body.length ∧ shown ≤ (fillP h notes body q lines shown).2.2 ∧
    (fillP h notes body q lines shown).2.1 = q ++ (body.take ((fillP h notes body q lines shown).1 - lines)).flatMap (notesOf notes) := by
  intro body
  induction body with
  | nil => intro q lines shown hi; simp only [fillP]; exact ⟨hi, Nat.le_refl _, by simp, Int.le_refl _, by simp⟩
  | cons x r ih =>
    intro q lines shown hi
    simp only [fillP]
    split
    · next hf =>
      obtain ⟨h1, h2⟩ := fillP_step (notes := notes) hi hf
      obtain ⟨g1, g2, g3, g4, g5⟩ := ih _ _ _ h1
      refine ⟨g1, by omega, by simp only [List.length_cons]; omega, Int.le_trans h2 g4, ?_⟩
      refine g5.trans ?_
      generalize (fillP h notes r (q ++ notesOf notes x) (lines + 1) _).1 = n at g2 g3 ⊢
      have e : n - lines = (n - (lines + 1)) + 1 := by omega
      rw [e, List.take_succ_cons, List.flatMap_cons, List.append_assoc]
    · exact ⟨hi, Nat.le_refl _, by omega, Int.le_refl _, by simp⟩
theorem fill_start {h : Int} (hh : 4 ≤ h) (q : List Ln) : FillI h q 0 (min (q.length : Int) (h - 1)) := by
  refine ⟨by omega, by omega, fun e => ?_, by unfold roomP; omega⟩
  have := List.length_pos_iff.2 e
  omega
/-- A page takes something. -/
theorem fill_prog {h : Int} (hh : 4 ≤ h) (notes : List (List Ln)) (body q : List Ln) (hne : body ≠ [] ∨ q ≠ []) :
    0 < (fillP h notes body q 0 (min (q.length : Int) (h - 1))).1 + (fillP h notes body q 0 (min (q.length : Int) (h - 1))).2.2.toNat := by
  have hs := fill_start hh q
  obtain ⟨g1, g2, g3, g4, g5⟩ := fillP_ok h notes body q 0 _ hs
  by_cases hq : q = []
  · subst hq
    cases body with
    | nil => simp at hne
    | cons x r =>
      have hm : min ((([] : List Ln).length : Nat) : Int) (h - 1) = 0 := by simp; omega
      rw [hm]
      have hf : fitsP h [] x 0 0 = true := by
        unfold fitsP roomP
        split
        · simp; omega
        · simp; omega
      have h1 : fillP h notes (x :: r) [] 0 0 = fillP h notes r ([] ++ notesOf notes x) (0 + 1) (showP h ([] ++ notesOf notes x) (0 + 1) 0) := by
        rw [fillP, if_pos hf]
      rw [h1]
      have hi : FillI h [] 0 0 := by rw [hm] at hs; exact hs
      have := (fillP_ok h notes r _ _ _ (fillP_step (notes := notes) hi hf).1).2.1
      omega
  · have := hs.one hq
    have : 1 ≤ (fillP h notes body q 0 (min (q.length : Int) (h - 1))).2.2 := by omega
    omega
theorem leftP_fill (notes : List (List Ln)) (body q : List Ln) (n s : Nat) (hn : n ≤ body.length) (hs : s ≤ (q ++ (body.take n).flatMap (notesOf notes)).length) :
    leftP notes (body.drop n) ((q ++ (body.take n).flatMap (notesOf notes)).drop s) + n + s = leftP notes body q := by
  unfold leftP
  have h1 : (body.map fun x => 1 + (notesOf notes x).length).sum = ((body.take n).map fun x => 1 + (notesOf notes x).length).sum + ((body.drop n).map fun x => 1 + (notesOf notes x).length).sum := by
    rw [← List.sum_append, ← List.map_append, List.take_append_drop]
  have h2 : ∀ l : List Ln, (l.map fun x => 1 + (notesOf notes x).length).sum = l.length + (l.flatMap (notesOf notes)).length := fun l => by
    induction l with
    | nil => rfl
    | cons a l ih => simp only [List.map_cons, List.sum_cons, List.length_cons, List.flatMap_cons, List.length_append, ih]; omega
  rw [h1, h2 (body.take n), List.length_drop]
  rw [List.length_append] at hs ⊢
  have : (body.take n).length = n := by simp; omega
  omega
theorem setF_fuel {h : Int} (hh : 4 ≤ h) (notes : List (List Ln)) : ∀ (f g : Nat) (body q : List Ln), leftP notes body q ≤ f → leftP notes body q ≤ g → setF h notes f body q = setF h notes g body q := by
  have hz : ∀ (g : Nat) (body q : List Ln), leftP notes body q ≤ 0 → setF h notes g body q = [] := fun g body q hl => by
    have h1 : q = [] := List.eq_nil_of_length_eq_zero (by unfold leftP at hl; omega)
    have h2 : body = [] := by
      cases body with
      | nil => rfl
      | cons x r => unfold leftP at hl; simp only [List.map_cons, List.sum_cons] at hl; omega
    subst h1 h2
    cases g with
    | zero => rfl
    | succ g => rw [setF, if_pos ⟨rfl, rfl⟩]
  intro f
  induction f with
  | zero => intro g body q hf hg; rw [hz g body q hf, hz 0 body q hf]
  | succ f ih =>
    intro g body q hf hg
    cases g with
    | zero => rw [hz _ body q hg, hz 0 body q hg]
    | succ g =>
      by_cases h0 : body = [] ∧ q = []
      · rw [setF, setF, if_pos h0, if_pos h0]
      rw [setF, setF, if_neg h0, if_neg h0]
      have hp := fill_prog hh notes body q (by
        by_cases hb : body = []
        · exact .inr fun hq => h0 ⟨hb, hq⟩
        · exact .inl hb)
      obtain ⟨g1, _, g3, _, g5⟩ := fillP_ok h notes body q 0 _ (fill_start hh q)
      simp only
      congr 1
      generalize fillP h notes body q 0 (min (q.length : Int) (h - 1)) = r at hp g1 g3 g5
      simp only [Nat.sub_zero, Nat.zero_add] at g5 g3
      have hle : r.2.2.toNat ≤ r.2.1.length := by have := g1.le; have := g1.pos; omega
      have hl := leftP_fill notes body q r.1 r.2.2.toNat g3 (by rw [← g5]; exact hle)
      rw [← g5] at hl
      exact ih g _ _ (by omega) (by omega)
/-- One page, and the others. -/
theorem setF_step {h : Int} (hh : 4 ≤ h) (notes : List (List Ln)) (body q : List Ln) (h0 : ¬ (body = [] ∧ q = [])) (r : Nat × List Ln × Int) (hr : fillP h notes body q 0 (min (q.length : Int) (h - 1)) = r) :
    setF h notes (leftP notes body q) body q = (body.take r.1, r.2.1.take r.2.2.toNat) :: setF h notes (leftP notes (body.drop r.1) (r.2.1.drop r.2.2.toNat)) (body.drop r.1) (r.2.1.drop r.2.2.toNat) ∧
    leftP notes (body.drop r.1) (r.2.1.drop r.2.2.toNat) < leftP notes body q ∧ r.1 ≤ body.length ∧ r.2.2.toNat ≤ r.2.1.length := by
  subst hr
  have hp := fill_prog hh notes body q (by
    by_cases hb : body = []
    · exact .inr fun hq => h0 ⟨hb, hq⟩
    · exact .inl hb)
  obtain ⟨g1, _, g3, _, g5⟩ := fillP_ok h notes body q 0 _ (fill_start hh q)
  have hle : (fillP h notes body q 0 (min (q.length : Int) (h - 1))).2.2.toNat ≤ (fillP h notes body q 0 (min (q.length : Int) (h - 1))).2.1.length := by have := g1.le; have := g1.pos; omega
  simp only [Nat.sub_zero, Nat.zero_add] at g5 g3
  have hl := leftP_fill notes body q _ _ g3 (by rw [← g5]; exact hle)
  rw [← g5] at hl
  refine ⟨?_, by omega, g3, hle⟩
  obtain ⟨f, hf⟩ : ∃ f, leftP notes body q = f + 1 := ⟨leftP notes body q - 1, by omega⟩
  rw [hf, setF, if_neg h0]
  simp only
  congr 1
  exact setF_fuel hh notes _ _ _ _ (by omega) (Nat.le_refl _)
end
end Go.Proofs.YtdbnddmncbjobaaGreatDoor