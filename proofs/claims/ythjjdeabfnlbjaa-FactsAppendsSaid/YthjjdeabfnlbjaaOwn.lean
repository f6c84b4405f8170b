/- Rows that a call has made itself: lists of versions and of facts in memory of the call's own; append. -/
import Derived.Test.YthjjdeabfnlbjaaMem
import Derived.Test.YthjjdeabfnlbjaaChecked
import Derived.Maps.AppendAt
import Derived.Lib.Hide
namespace Go.Proofs.Ythjjdeabfnlbjaa
open Go Go.RowKit

def vcells (l : List Vr) : List Value := l.flatMap Vr.cells
def fcells (l : List Fc) : List Value := l.flatMap Fc.cells

theorem vcells_len (l : List Vr) : (vcells l).length = l.length * 8 := by
  induction l with
  | nil => rfl
  | cons v l ih => simp only [vcells, List.flatMap_cons, List.length_append] at ih ⊢; rw [ih]; simp [Vr.cells]; omega
theorem fcells_len (l : List Fc) : (fcells l).length = l.length * 6 := by
  induction l with
  | nil => rfl
  | cons v l ih => simp only [fcells, List.flatMap_cons, List.length_append] at ih ⊢; rw [ih]; simp [Fc.cells]; omega
theorem vcells_at (l : List Vr) : ∀ (i : Nat), i < l.length → ∀ j, j < 8 → (vcells l)[i * 8 + j]? = (vat l i).cells[j]? := by
  induction l with
  | nil => intro i h; simp at h
  | cons v l ih =>
    intro i h j hj
    simp only [vcells, List.flatMap_cons]
    cases i with
    | zero => rw [List.getElem?_append_left (by simp [Vr.cells]; omega)]; simp [vat]
    | succ i =>
      rw [List.getElem?_append_right (by simp [Vr.cells]; omega)]
      have e : (i + 1) * 8 + j - (Vr.cells v).length = i * 8 + j := by simp [Vr.cells]; omega
      rw [e]
      exact ih i (by simpa using h) j hj
theorem fcells_at (l : List Fc) : ∀ (i : Nat), i < l.length → ∀ j, j < 6 → (fcells l)[i * 6 + j]? = (fat l i).cells[j]? := by
  induction l with
  | nil => intro i h; simp at h
  | cons v l ih =>
    intro i h j hj
    simp only [fcells, List.flatMap_cons]
    cases i with
    | zero => rw [List.getElem?_append_left (by simp [Fc.cells]; omega)]; simp [fat]
    | succ i =>
      rw [List.getElem?_append_right (by simp [Fc.cells]; omega)]
      have e : (i + 1) * 6 + j - (Fc.cells v).length = i * 6 + j := by simp [Fc.cells]; omega
      rw [e]
      exact ih i (by simpa using h) j hj
theorem vcells_one (l : List Vr) : ∀ u ∈ vcells l, u.oneCell' = true := by
  intro u hu
  obtain ⟨v, _, hv⟩ := List.mem_flatMap.1 hu
  simp only [Vr.cells, List.mem_cons, List.not_mem_nil, or_false] at hv
  rcases hv with rfl | rfl | rfl | rfl | rfl | rfl | rfl | rfl <;> rfl
theorem fcells_one (l : List Fc) : ∀ u ∈ fcells l, u.oneCell' = true := by
  intro u hu
  obtain ⟨v, _, hv⟩ := List.mem_flatMap.1 hu
  simp only [Fc.cells, List.mem_cons, List.not_mem_nil, or_false] at hv
  rcases hv with rfl | rfl | rfl | rfl | rfl | rfl <;> rfl

/-- The slice value v holds the versions l in a row of its own, in a block from base on. -/
def OV (w : World) (base : Nat) (v : Value) (l : List Vr) : Prop := w.ownsRow base 32 8 v l.length (vcells l)
def OF (w : World) (base : Nat) (v : Value) (l : List Fc) : Prop := w.ownsRow base 30 6 v l.length (fcells l)

theorem OV.nil (w : World) (base : Nat) : OV w base (.slice none 0 0) [] := World.ownsRow_nil w base 32 8
theorem OF.nil (w : World) (base : Nat) : OF w base (.slice none 0 0) [] := World.ownsRow_nil w base 30 6

theorem own_form {w : World} {base : Nat} {e : TypeId} {size : Nat} {v : Value} {n : Nat} {xs : List Value} (h : w.ownsRow base e size v n xs) :
    ∃ A c, v = .slice A n c ∧ n ≤ c ∧ (A = none ∧ n = 0 ∧ c = 0 ∨ ∃ g, A = some ⟨g, 0, none⟩ ∧ base ≤ g ∧ g < w.heap.size ∧ ∀ j u, xs[j]? = some u → w.cell? ⟨g, j, none⟩ = some u) := by
  rcases h.2 with ⟨rfl, rfl⟩ | ⟨g, cap, cur, rfl, hb, hg, hn, _, _, _⟩
  · exact ⟨none, 0, rfl, Nat.le_refl _, .inl ⟨rfl, rfl, rfl⟩⟩
  · refine ⟨some ⟨g, 0, none⟩, cap, rfl, hn, .inr ⟨g, rfl, hb, lt_of_block hg, fun j u hu => ?_⟩⟩
    have := h.cells (g := g) rfl j u hu
    rwa [Addr.add_lit, Nat.zero_add] at this
theorem OV.form {w : World} {base : Nat} {v : Value} {l : List Vr} (h : OV w base v l) : ∃ A c, v = .slice A l.length c ∧ l.length ≤ c ∧ SV w w.heap.size A l.length l := by
  obtain ⟨A, c, rfl, hc, hh⟩ := own_form h
  refine ⟨A, c, rfl, hc, rfl, fun h0 => ?_⟩
  rcases hh with ⟨_, hn, _⟩ | ⟨g, rfl, hb, hg, hx⟩
  · omega
  · refine ⟨g, 0, rfl, hg, fun i hi j u hu => ?_⟩
    have hj : j < 8 := (List.getElem?_eq_some_iff.1 hu).1
    have := hx (i * 8 + j) u ((vcells_at l i hi j hj).trans hu)
    simpa [Nat.add_assoc] using this
theorem OF.form {w : World} {base : Nat} {v : Value} {l : List Fc} (h : OF w base v l) : ∃ A c, v = .slice A l.length c ∧ l.length ≤ c ∧ SF w w.heap.size A l.length l := by
  obtain ⟨A, c, rfl, hc, hh⟩ := own_form h
  refine ⟨A, c, rfl, hc, rfl, fun h0 => ?_⟩
  rcases hh with ⟨_, hn, _⟩ | ⟨g, rfl, hb, hg, hx⟩
  · omega
  · refine ⟨g, 0, rfl, hg, fun i hi j u hu => ?_⟩
    have hj : j < 6 := (List.getElem?_eq_some_iff.1 hu).1
    have := hx (i * 6 + j) u ((fcells_at l i hi j hj).trans hu)
    simpa [Nat.add_assoc] using this

/-- append onto a row of the call's own: the source is nil, or its cells are known. -/
theorem run_append_src5 {P : Program} {w : World} {base : Nat} {t e : TypeId} {z : Value} {size bytes : Nat} (ht : P.underlying t = some (.slice e)) (hinfo : (P.info? e).map (fun i => (i.zero, i.size, i.bytes)) = some (some z, size, bytes))
    (hzs : z.cells.size = size) (hsz : 0 < size) {v : Value} {n : Nat} {xs : List Value} (hown : w.ownsRow base e size v n xs) {A : Option Addr} {m c : Nat} {news : List Value} (hl : news.length = m * size)
    (hA : 0 < m → ∃ b off, A = some ⟨b, off, none⟩ ∧ ∀ j u, news[j]? = some u → w.cell? ⟨b, off + j, none⟩ = some u) (h1 : ∀ u ∈ news, u.oneCell' = true)
    (h63 : n + m ≤ maxLen) (hbytes : (n + m) * bytes ≤ 140737488355328) (hbase : base ≤ w.heap.size) :
    ∃ A' c' w', (Builtin.append_ #[t, t] t #[v, .slice A m c]).run P w = .ok (.slice A' (n + m) c') w' ∧ w'.ownsRow base e size (.slice A' (n + m) c') (n + m) (xs ++ news) ∧ (∀ B, B ≤ base → Below B w w') ∧
      (∀ k, k < w.heap.size → (∀ a, v ≠ .slice (some ⟨k, 0, none⟩) n a) → w'.heap[k]? = w.heap[k]?) ∧ ((Value.slice A' (n + m) c').ownBlock = v.ownBlock ∨ (Value.slice A' (n + m) c').ownBlock = some w.heap.size) := by
  obtain ⟨i, hi, hz, hs, hb⟩ := info_parts hinfo
  have fin : ∀ v' w', w'.ownsRow base e size v' (n + m) (xs ++ news) → w.grownBy w' v.ownBlock → (v'.ownBlock = v.ownBlock ∨ v'.ownBlock = some w.heap.size) → (Builtin.append_ #[t, t] t #[v, .slice A m c]).run P w = .ok v' w' →
      ∃ A' c' w', (Builtin.append_ #[t, t] t #[v, .slice A m c]).run P w = .ok (.slice A' (n + m) c') w' ∧ w'.ownsRow base e size (.slice A' (n + m) c') (n + m) (xs ++ news) ∧ (∀ B, B ≤ base → Below B w w') ∧
      (∀ k, k < w.heap.size → (∀ a, v ≠ .slice (some ⟨k, 0, none⟩) n a) → w'.heap[k]? = w.heap[k]?) ∧ ((Value.slice A' (n + m) c').ownBlock = v.ownBlock ∨ (Value.slice A' (n + m) c').ownBlock = some w.heap.size) := by
    intro v' w' h2 h3 h9 h4
    obtain ⟨A', c', rfl, _, _⟩ := own_form h2
    refine ⟨A', c', w', h4, h2, fun B hB => (Below.refl B w).grown h3 (Nat.le_trans hB hbase) (fun k hk => Nat.le_trans hB (hown.lt k hk).1), fun k hk hne => h3.block k hk (fun e => ?_), h9⟩
    rcases hown.2 with ⟨rfl, _⟩ | ⟨g, cap, cur, rfl, _⟩
    · simp [Value.ownBlock] at e
    · simp only [Value.ownBlock, Option.some.injEq] at e
      subst e
      exact hne _ rfl
  by_cases h0 : 0 < m
  · obtain ⟨b, off, rfl, hc⟩ := hA h0
    obtain ⟨v', w', hr, h2, h3, _, h9⟩ := run_append_own_at (P := P) w base t t e i z size bytes ht hi hz hs hb hzs hsz v n xs hown ⟨b, off, none⟩ m c news hl (fun j u hu => by rw [Addr.add_lit]; exact hc j u hu) h1 h63 hbytes hbase
    exact fin v' w' h2 h3 h9 hr
  · obtain rfl : m = 0 := by omega
    obtain rfl : news = [] := List.eq_nil_of_length_eq_zero (by simpa using hl)
    rcases A with _ | ad
    · have hr : (Builtin.append_ #[t, t] t #[v, .slice none 0 c]).run P w = .ok v w := by
        rcases hown.2 with ⟨rfl, rfl⟩ | ⟨g, cap, cur, rfl, _, _, hnc, _⟩
        · simp [Builtin.append_, run_underlying ht, sizeOf, typeInfo, hi, Builtin.lenOf, Builtin.firstCells]
        · simp [Builtin.append_, run_underlying ht, sizeOf, typeInfo, hi, Builtin.lenOf, Builtin.firstCells, hnc, storeCells]
      exact fin v w (by simpa using hown) (World.grownBy.refl w _) (.inl rfl) hr
    · obtain ⟨v', w', hr, h2, h3, _, h9⟩ := run_append_own_at (P := P) w base t t e i z size bytes ht hi hz hs hb hzs hsz v n xs hown ad 0 c [] hl (fun j u hu => by simp at hu) h1 h63 hbytes hbase
      exact fin v' w' h2 h3 h9 hr

/-- append onto a row of the call's own: the source is nil, or its cells are known. -/
theorem run_append_src {P : Program} {w : World} {base : Nat} {t e : TypeId} {z : Value} {size bytes : Nat} (ht : P.underlying t = some (.slice e)) (hinfo : (P.info? e).map (fun i => (i.zero, i.size, i.bytes)) = some (some z, size, bytes))
    (hzs : z.cells.size = size) (hsz : 0 < size) {v : Value} {n : Nat} {xs : List Value} (hown : w.ownsRow base e size v n xs) {A : Option Addr} {m c : Nat} {news : List Value} (hl : news.length = m * size)
    (hA : 0 < m → ∃ b off, A = some ⟨b, off, none⟩ ∧ ∀ j u, news[j]? = some u → w.cell? ⟨b, off + j, none⟩ = some u) (h1 : ∀ u ∈ news, u.oneCell' = true)
    (h63 : n + m ≤ maxLen) (hbytes : (n + m) * bytes ≤ 140737488355328) (hbase : base ≤ w.heap.size) :
    ∃ A' c' w', (Builtin.append_ #[t, t] t #[v, .slice A m c]).run P w = .ok (.slice A' (n + m) c') w' ∧ w'.ownsRow base e size (.slice A' (n + m) c') (n + m) (xs ++ news) ∧ (∀ B, B ≤ base → Below B w w') ∧
      (∀ k, k < w.heap.size → (∀ a, v ≠ .slice (some ⟨k, 0, none⟩) n a) → w'.heap[k]? = w.heap[k]?) := by
  obtain ⟨A', c', w', h1, h2, h3, h4, _⟩ := run_append_src5 ht hinfo hzs hsz hown hl (c := c) hA h1 h63 hbytes hbase
  exact ⟨A', c', w', h1, h2, h3, h4⟩

theorem info32 : (Try.prog.info? 32).map (fun i => (i.zero, i.size, i.bytes)) = some (some (.agg #[.int .i64 0, .bool false, .int .i64 0, .string ⟨#[]⟩, .int .i64 0, .int .i64 0, .int .i64 0, .int .i64 0]), 8, 72) := by kernel_rfl
theorem info30 : (Try.prog.info? 30).map (fun i => (i.zero, i.size, i.bytes)) = some (some (.agg #[.int .i64 0, .string ⟨#[]⟩, .int .i64 0, .int .i64 0, .int .i64 0, .int .i64 0]), 6, 56) := by kernel_rfl

theorem vcells_append (a b : List Vr) : vcells (a ++ b) = vcells a ++ vcells b := by simp [vcells]
theorem fcells_append (a b : List Fc) : fcells (a ++ b) = fcells a ++ fcells b := by simp [fcells]

theorem OV.append {w : World} {base : Nat} {v : Value} {l : List Vr} (h : OV w base v l) {B : Nat} {A : Option Addr} {m : Nat} {l' : List Vr} (hs : SV w B A m l') (c : Nat) (hm : l.length + m ≤ 100000) (hbase : base ≤ w.heap.size) :
    ∃ A' c' w', (Builtin.append_ #[22, 22] 22 #[v, .slice A m c]).run Try.prog w = .ok (.slice A' (l.length + m) c') w' ∧ OV w' base (.slice A' (l.length + m) c') (l ++ l') ∧ (∀ B, B ≤ base → Below B w w') ∧
      (∀ k, k < w.heap.size → (∀ a, v ≠ .slice (some ⟨k, 0, none⟩) l.length a) → w'.heap[k]? = w.heap[k]?) := by
  obtain ⟨rfl, hs⟩ := hs
  obtain ⟨A', c', w', h1, h2, h3, h4⟩ := run_append_src (P := Try.prog) (t := 22) Try.underlying22 info32 rfl (by omega) h (A := A) (m := l'.length) (c := c) (news := vcells l') (vcells_len l')
    (fun h0 => by
      obtain ⟨b, off, rfl, _, hc⟩ := hs h0
      refine ⟨b, off, rfl, fun j u hu => ?_⟩
      have hj : j < l'.length * 8 := by rw [← vcells_len]; exact (List.getElem?_eq_some_iff.1 hu).1
      have e : j = j / 8 * 8 + j % 8 := by omega
      rw [e, vcells_at l' (j / 8) (by omega) (j % 8) (by omega)] at hu
      have := hc (j / 8) (by omega) (j % 8) u hu
      rw [Nat.add_assoc, ← e] at this
      exact this)
    (vcells_one l') (by simp only [maxLen]; omega) (by omega) hbase
  refine ⟨A', c', w', h1, ?_, h3, h4⟩
  unfold OV
  rw [vcells_append, List.length_append]
  exact h2
theorem OF.append {w : World} {base : Nat} {v : Value} {l : List Fc} (h : OF w base v l) {B : Nat} {A : Option Addr} {m : Nat} {l' : List Fc} (hs : SF w B A m l') (c : Nat) (hm : l.length + m ≤ 100000) (hbase : base ≤ w.heap.size) :
    ∃ A' c' w', (Builtin.append_ #[38, 38] 38 #[v, .slice A m c]).run Try.prog w = .ok (.slice A' (l.length + m) c') w' ∧ OF w' base (.slice A' (l.length + m) c') (l ++ l') ∧ (∀ B, B ≤ base → Below B w w') ∧
      (∀ k, k < w.heap.size → (∀ a, v ≠ .slice (some ⟨k, 0, none⟩) l.length a) → w'.heap[k]? = w.heap[k]?) := by
  obtain ⟨rfl, hs⟩ := hs
  obtain ⟨A', c', w', h1, h2, h3, h4⟩ := run_append_src (P := Try.prog) (t := 38) Try.underlying38 info30 rfl (by omega) h (A := A) (m := l'.length) (c := c) (news := fcells l') (fcells_len l')
    (fun h0 => by
      obtain ⟨b, off, rfl, _, hc⟩ := hs h0
      refine ⟨b, off, rfl, fun j u hu => ?_⟩
      have hj : j < l'.length * 6 := by rw [← fcells_len]; exact (List.getElem?_eq_some_iff.1 hu).1
      have e : j = j / 6 * 6 + j % 6 := by omega
      rw [e, fcells_at l' (j / 6) (by omega) (j % 6) (by omega)] at hu
      have := hc (j / 6) (by omega) (j % 6) u hu
      rw [Nat.add_assoc, ← e] at this
      exact this)
    (fcells_one l') (by simp only [maxLen]; omega) (by omega) hbase
  refine ⟨A', c', w', h1, ?_, h3, h4⟩
  unfold OF
  rw [fcells_append, List.length_append]
  exact h2
theorem OF.append5 {w : World} {base : Nat} {v : Value} {l : List Fc} (h : OF w base v l) {B : Nat} {A : Option Addr} {m : Nat} {l' : List Fc} (hs : SF w B A m l') (c : Nat) (hm : l.length + m ≤ 100000) (hbase : base ≤ w.heap.size) :
    ∃ A' c' w', (Builtin.append_ #[38, 38] 38 #[v, .slice A m c]).run Try.prog w = .ok (.slice A' (l.length + m) c') w' ∧ OF w' base (.slice A' (l.length + m) c') (l ++ l') ∧ (∀ B, B ≤ base → Below B w w') ∧
      (∀ k, k < w.heap.size → (∀ a, v ≠ .slice (some ⟨k, 0, none⟩) l.length a) → w'.heap[k]? = w.heap[k]?) ∧ ((Value.slice A' (l.length + m) c').ownBlock = v.ownBlock ∨ (Value.slice A' (l.length + m) c').ownBlock = some w.heap.size) := by
  obtain ⟨rfl, hs⟩ := hs
  obtain ⟨A', c', w', h1, h2, h3, h4⟩ := run_append_src5 (P := Try.prog) (t := 38) Try.underlying38 info30 rfl (by omega) h (A := A) (m := l'.length) (c := c) (news := fcells l') (fcells_len l')
    (fun h0 => by
      obtain ⟨b, off, rfl, _, hc⟩ := hs h0
      refine ⟨b, off, rfl, fun j u hu => ?_⟩
      have hj : j < l'.length * 6 := by rw [← fcells_len]; exact (List.getElem?_eq_some_iff.1 hu).1
      have e : j = j / 6 * 6 + j % 6 := by omega
      rw [e, fcells_at l' (j / 6) (by omega) (j % 6) (by omega)] at hu
      have := hc (j / 6) (by omega) (j % 6) u hu
      rw [Nat.add_assoc, ← e] at this
      exact this)
    (fcells_one l') (by simp only [maxLen]; omega) (by omega) hbase
  refine ⟨A', c', w', h1, ?_, h3, h4⟩
  unfold OF
  rw [fcells_append, List.length_append]
  exact h2
/-- append, where its run is known. -/
theorem wpList_append_run {P : Program} {w : World} {ops : Array Oper} {rest : List Oper} {o : Oper} {a : Act} {Q : Exit → Act → World → Prop} {s x : Operand} {t : TypeId} {vs vx v' : Value} {w' : World}
    (hr : (Builtin.append_ #[t, t] t #[vs, vx]).run P w = .ok v' w') (hgd : o.guard = none)
    (ho : o.op = .call { callee := .builtin .append, args := #[s, x], argTypes := #[t, t] }) (hty : o.type = t) (hs : a.eval s = vs) (hx : a.eval x = vx)
    (h : wpList P ops Q rest (a.put o.dst v') w') : wpList P ops Q (o :: rest) a w := by
  refine wpList_plain hgd fun _ hK => ?_
  unfold Oper.wp execOp
  simp only [ho, hty, resolve, invoke, builtin, Sem.run_bind, Sem.run_pure, Result.andThen_ok, List.map_toArray, List.map_cons, List.map_nil, hs, hx, hr]
  exact hK _ _ h
/-- append in a region that draws its order: what its run comes to is known. -/
theorem step_append_run {P : Program} {w : World} {ops : Array Oper} {o : Oper} {a : Act} {K : Act → World → Prop} {Q : Exit → Act → World → Prop} {E : Prop} {s x : Operand} {t : TypeId} {vs vx v' : Value} {w' : World}
    (hr : (Builtin.append_ #[t, t] t #[vs, vx]).run P w = .ok v' w') (hgd : o.guard = none)
    (ho : o.op = .call { callee := .builtin .append, args := #[s, x], argTypes := #[t, t] }) (hty : o.type = t) (hs : a.eval s = vs) (hx : a.eval x = vx)
    (h : K (a.put o.dst v') w') : if Region.wanted o (yielded ops a.tmps) = true then Oper.wp P o a w K Q else E := by
  have hw : Region.wanted o (yielded ops a.tmps) = true := by simp [Region.wanted, hgd]
  rw [if_pos hw]
  unfold Oper.wp execOp
  simp only [ho, hty, resolve, invoke, builtin, Sem.run_bind, Sem.run_pure, Result.andThen_ok, List.map_toArray, List.map_cons, List.map_nil, hs, hx, hr]
  exact h
/-- append in a region that draws its order: that it runs, and what it comes to, is known. -/
theorem step_append_ex {P : Program} {w : World} {ops : Array Oper} {o : Oper} {a : Act} {K : Act → World → Prop} {Q : Exit → Act → World → Prop} {E : Prop} {s x : Operand} {t : TypeId} {vs vx : Value} {R : Value → World → Prop}
    (hgd : o.guard = none) (ho : o.op = .call { callee := .builtin .append, args := #[s, x], argTypes := #[t, t] }) (hty : o.type = t) (hs : a.eval s = vs) (hx : a.eval x = vx)
    (hr : ∃ v' w', (Builtin.append_ #[t, t] t #[vs, vx]).run P w = .ok v' w' ∧ R v' w')
    (h : ∀ v' w', R v' w' → K (a.put o.dst v') w') : if Region.wanted o (yielded ops a.tmps) = true then Oper.wp P o a w K Q else E := by
  obtain ⟨v', w', hr, hR⟩ := hr
  exact step_append_run hr hgd ho hty hs hx (h v' w' hR)
/-- A row of one version, just laid. -/
theorem SV.one (w : World) (v : Vr) (t : TypeId) : SV (w.alloc (.cells #[.int .i64 v.op, .bool v.st, .int .i64 v.fc.en, .string v.fc.kd, .int .i64 v.fc.day, .int .i64 v.fc.byy, .int .i64 v.fc.too, .int .i64 v.fc.am] t)) (w.heap.size + 1) (some ⟨w.heap.size, 0, none⟩) 1 [v] := by
  refine ⟨rfl, fun _ => ⟨w.heap.size, 0, rfl, by omega, fun i hi j u hu => ?_⟩⟩
  obtain rfl : i = 0 := by omega
  rw [cell_of_row _ w.heap.size _ _ t (0, 0) (heap_alloc_new w _)]
  simpa [vat, Vr.cells] using hu
theorem SF.one (w : World) (f : Fc) (t : TypeId) : SF (w.alloc (.cells #[.int .i64 f.en, .string f.kd, .int .i64 f.day, .int .i64 f.byy, .int .i64 f.too, .int .i64 f.am] t)) (w.heap.size + 1) (some ⟨w.heap.size, 0, none⟩) 1 [f] := by
  refine ⟨rfl, fun _ => ⟨w.heap.size, 0, rfl, by omega, fun i hi j u hu => ?_⟩⟩
  obtain rfl : i = 0 := by omega
  rw [cell_of_row _ w.heap.size _ _ t (0, 0) (heap_alloc_new w _)]
  simpa [fat, Fc.cells] using hu
end Go.Proofs.Ythjjdeabfnlbjaa
