/- The contracts of slices.IndexFunc and slices.DeleteFunc at facts and at versions, with the closures of facts.Known and facts.History. -/
import Derived.Test.YthjjdeabfnlbjaaDel
namespace Go.Proofs.Ythjjdeabfnlbjaa
open Go Go.RowKit

def PredPost (b : Bool) (w : World) (e : Ending) (w' : World) : Prop := e = .returned (.bool b) ∧ Ext w w'
def pDay (x : Int) (f : Fc) : Bool := decide (x < f.day)
def pEn (x : Int) (v : Vr) : Bool := v.fc.en != x
theorem clo43_any (x : Int) (bc : Nat) (f : Fc) (w : World) (hc : w.cell? ⟨bc, 0, none⟩ = some (.int .i64 x)) (hb : bc < w.heap.size) : Calls Try.prog 43 #[f.val, .pointer (some ⟨bc, 0, none⟩)] w (PredPost (pDay x f) w) := by
  unfold Fc.val
  go_enter Try.func43, Try.ntmps43
  go_wp2
  go_ret
  exact ⟨ret_bool rfl, (Ext.refl _).alloc _⟩
theorem clo45_any (x : Int) (bc : Nat) (v : Vr) (w : World) (hc : w.cell? ⟨bc, 0, none⟩ = some (.int .i64 x)) (hb : bc < w.heap.size) : Calls Try.prog 45 #[v.val, .pointer (some ⟨bc, 0, none⟩)] w (PredPost (pEn x v) w) := by
  unfold Vr.val
  go_enter Try.func45, Try.ntmps45
  go_wp2
  go_ret
  exact ⟨ret_bool rfl, (Ext.refl _).alloc _⟩
theorem wpList_clear_run {P : Program} {w : World} {ops : Array Oper} {rest : List Oper} {o : Oper} {a : Act} {Q : Exit → Act → World → Prop} {x : Operand} {t : TypeId} {vx v' : Value} {w' : World}
    (hr : (Builtin.clear_ #[t] 0 #[vx]).run P w = .ok v' w') (hgd : o.guard = none)
    (ho : o.op = .call { callee := .builtin .clear, args := #[x], argTypes := #[t] }) (hty : o.type = 0) (hx : a.eval x = vx)
    (h : wpList P ops Q rest (a.put o.dst v') w') : wpList P ops Q (o :: rest) a w := by
  refine wpList_plain hgd fun _ hK => ?_
  unfold Oper.wp execOp
  simp only [ho, hty, resolve, invoke, builtin, Sem.run_bind, Sem.run_pure, Result.andThen_ok, List.map_toArray, List.map_cons, List.map_nil, hx, hr]
  exact hK _ _ h
theorem zero30 (w : World) : (zeroValue 30).run Try.prog w = .ok (.agg #[.int .i64 0, .string ⟨#[]⟩, .int .i64 0, .int .i64 0, .int .i64 0, .int .i64 0]) w := by kernel_rfl
theorem zero32 (w : World) : (zeroValue 32).run Try.prog w = .ok (.agg #[.int .i64 0, .bool false, .int .i64 0, .string ⟨#[]⟩, .int .i64 0, .int .i64 0, .int .i64 0, .int .i64 0]) w := by kernel_rfl

theorem vcells_set (l : List Vr) (v : Vr) : ∀ (k : Nat), k < l.length → vcells (l.set k v) = ((((((((vcells l).set (k * 8) (.int .i64 v.op)).set (k * 8 + 1) (.bool v.st)).set (k * 8 + 2) (.int .i64 v.fc.en)).set (k * 8 + 3) (.string v.fc.kd)).set (k * 8 + 4) (.int .i64 v.fc.day)).set (k * 8 + 5) (.int .i64 v.fc.byy)).set (k * 8 + 6) (.int .i64 v.fc.too)).set (k * 8 + 7) (.int .i64 v.fc.am) := by
  induction l with
  | nil => intro k h; simp at h
  | cons x l ih =>
    intro k h
    cases k with
    | zero => rfl
    | succ k =>
      have ih' := ih k (by simpa using h)
      simp only [vcells, List.set_cons_succ, List.flatMap_cons] at ih' ⊢
      rw [ih']
      have e0 : (k + 1) * 8 = (k * 8) + 1 + 1 + 1 + 1 + 1 + 1 + 1 + 1 := by omega
      simp only [Vr.cells, List.cons_append, List.nil_append, e0, List.set_cons_succ]
theorem OV.at_ {w : World} {base g cap n : Nat} {l : List Vr} (h : OV w base (.slice (some ⟨g, 0, none⟩) n cap) l) (hn : l.length = n) {k : Nat} (hk : k < n) :
    (w.cell? ⟨g, k * 8, none⟩ = some (.int .i64 (vat l k).op) ∧ w.cell? ⟨g, k * 8 + 1, none⟩ = some (.bool (vat l k).st) ∧ w.cell? ⟨g, k * 8 + 2, none⟩ = some (.int .i64 (vat l k).fc.en) ∧ w.cell? ⟨g, k * 8 + 3, none⟩ = some (.string (vat l k).fc.kd) ∧
    w.cell? ⟨g, k * 8 + 4, none⟩ = some (.int .i64 (vat l k).fc.day) ∧ w.cell? ⟨g, k * 8 + 5, none⟩ = some (.int .i64 (vat l k).fc.byy) ∧ w.cell? ⟨g, k * 8 + 6, none⟩ = some (.int .i64 (vat l k).fc.too) ∧ w.cell? ⟨g, k * 8 + 7, none⟩ = some (.int .i64 (vat l k).fc.am)) := by
  subst hn
  have c : ∀ j, j < 8 → w.cell? ⟨g, k * 8 + j, none⟩ = (vat l k).cells[j]? := fun j hj => by
    rw [World.ownsRow.cellAt h (k * 8 + j) (by omega)]; exact vcells_at l k hk j hj
  exact ⟨c 0 (by omega), c 1 (by omega), c 2 (by omega), c 3 (by omega), c 4 (by omega), c 5 (by omega), c 6 (by omega), c 7 (by omega)⟩
theorem OV.frozen {w : World} {base g cap n : Nat} {l : List Vr} (h : OV w base (.slice (some ⟨g, 0, none⟩) n cap) l) (hn : l.length = n) : ∀ i, w.frozen? ⟨g, i, none⟩ = false := by
  subst hn; exact World.ownsRow.frozenAt h
theorem OV.put {w : World} {base g cap n : Nat} {l : List Vr} (h : OV w base (.slice (some ⟨g, 0, none⟩) n cap) l) (hn : l.length = n) {k : Nat} (hk : k < n) (v : Vr) :
    OV ((((((((w.setCell ⟨g, k * 8, none⟩ (.int .i64 v.op)).setCell ⟨g, k * 8 + 1, none⟩ (.bool v.st)).setCell ⟨g, k * 8 + 2, none⟩ (.int .i64 v.fc.en)).setCell ⟨g, k * 8 + 3, none⟩ (.string v.fc.kd)).setCell ⟨g, k * 8 + 4, none⟩ (.int .i64 v.fc.day)).setCell ⟨g, k * 8 + 5, none⟩ (.int .i64 v.fc.byy)).setCell ⟨g, k * 8 + 6, none⟩ (.int .i64 v.fc.too)).setCell ⟨g, k * 8 + 7, none⟩ (.int .i64 v.fc.am)) base (.slice (some ⟨g, 0, none⟩) n cap) (l.set k v) ∧ w.grownBy ((((((((w.setCell ⟨g, k * 8, none⟩ (.int .i64 v.op)).setCell ⟨g, k * 8 + 1, none⟩ (.bool v.st)).setCell ⟨g, k * 8 + 2, none⟩ (.int .i64 v.fc.en)).setCell ⟨g, k * 8 + 3, none⟩ (.string v.fc.kd)).setCell ⟨g, k * 8 + 4, none⟩ (.int .i64 v.fc.day)).setCell ⟨g, k * 8 + 5, none⟩ (.int .i64 v.fc.byy)).setCell ⟨g, k * 8 + 6, none⟩ (.int .i64 v.fc.too)).setCell ⟨g, k * 8 + 7, none⟩ (.int .i64 v.fc.am)) (some g) := by
  subst hn
  obtain ⟨h1, g1⟩ := World.ownsRow.stored h (k * 8) (.int .i64 v.op)
  obtain ⟨h2, g2⟩ := World.ownsRow.stored h1 (k * 8 + 1) (.bool v.st)
  obtain ⟨h3, g3⟩ := World.ownsRow.stored h2 (k * 8 + 2) (.int .i64 v.fc.en)
  obtain ⟨h4, g4⟩ := World.ownsRow.stored h3 (k * 8 + 3) (.string v.fc.kd)
  obtain ⟨h5, g5⟩ := World.ownsRow.stored h4 (k * 8 + 4) (.int .i64 v.fc.day)
  obtain ⟨h6, g6⟩ := World.ownsRow.stored h5 (k * 8 + 5) (.int .i64 v.fc.byy)
  obtain ⟨h7, g7⟩ := World.ownsRow.stored h6 (k * 8 + 6) (.int .i64 v.fc.too)
  obtain ⟨h8, g8⟩ := World.ownsRow.stored h7 (k * 8 + 7) (.int .i64 v.fc.am)
  have e : ∀ j, some g = some j → w.heap.size ≤ j ∨ some g = some j := fun _ e => .inr e
  refine ⟨?_, ((((((g1.andThen g2 e).andThen g3 e).andThen g4 e).andThen g5 e).andThen g6 e).andThen g7 e).andThen g8 e⟩
  unfold OV
  rw [vcells_set l v k hk, List.length_set]
  exact h8

def IdxF (l : List Fc) (p : Fc → Bool) (w : World) (e : Ending) (w' : World) : Prop :=
  ∃ r : Int, e = .returned (.int .i64 r) ∧ Ext w w' ∧ (r = -1 ∧ (∀ j, j < l.length → p (fat l j) = false) ∨ ∃ k : Nat, r = k ∧ k < l.length ∧ p (fat l k) = true ∧ ∀ j, j < k → p (fat l j) = false)
set_option maxRecDepth 100000 in
set_option maxHeartbeats 1000000 in
theorem idxF_any (A : Option Addr) (n c : Nat) (l : List Fc) (x : Int) (bc : Nat) (w : World) (hl : n ≤ 100000) (h : SF w w.heap.size A n l) (hc : w.cell? ⟨bc, 0, none⟩ = some (.int .i64 x)) (hb : bc < w.heap.size) :
    Calls Try.prog 54 #[.slice A n c, .func (.func 43) #[] #[.pointer (some ⟨bc, 0, none⟩)]] w (IdxF l (pDay x) w) := by
  obtain rfl : l.length = n := h.1
  have HS := Lib.hid h; clear h
  have HC := Lib.hid hc; clear hc
  go_enter Try.func54, Try.ntmps54
  go_wp2
  go_loopw [8] (fun i wr => ∃ k : Nat, k ≤ l.length ∧ i = .int .i64 k ∧ (∀ j, j < k → pDay x (fat l j) = false) ∧ Ext w wr) (fun i _ => l.length - (intOf i).toNat)
  case atStart => exact ⟨0, Nat.zero_le _, rfl, fun j h => absurd h (by omega), Ext.refl _⟩
  case round =>
    obtain ⟨k, hk, rfl, hno, hx⟩ := hrel
    have HN := Lib.hid hno; clear hno
    by_cases hlt : k < l.length
    · have hlt' : (k : Int) < l.length := by omega
      obtain ⟨b, off, rfl, hb2, c0, c1, c2, c3, c4, c5⟩ := SF.at_ (SF.lift HS.out (Nat.le_refl _) hx) (k := k) hlt
      have hcc : wr.cell? ⟨bc, 0, none⟩ = some (.int .i64 x) := (hx.cells.1 bc 0 hb).trans HC.out
      have HCC := Lib.hid hcc; clear hcc
      have hbw : bc < wr.heap.size := Nat.lt_of_lt_of_le hb hx.lt
      cases hp : pDay x (fat l k)
      · have HP := Lib.hid hp
        go_wp2_with (first | (go_at_call 43; refine (clo43_any x bc (fat l k) _ HCC.out hbw).mono ?_; rintro e w1 ⟨rfl, hx1⟩))
        exact ⟨⟨k + 1, by omega, by go_num, fun j h => (by
          by_cases e : j = k
          · subst e; exact HP.out
          · exact HN.out j (by omega)), hx.trans hx1⟩, by simp [intOf]; omega⟩
      · have HP := Lib.hid hp
        go_wp2_with (first | (go_at_call 43; refine (clo43_any x bc (fat l k) _ HCC.out hbw).mono ?_; rintro e w1 ⟨rfl, hx1⟩))
        go_ret
        exact ⟨k, rfl, hx.trans hx1, .inr ⟨k, rfl, hlt, HP.out, HN.out⟩⟩
    · obtain rfl : k = l.length := by omega
      go_wp2
      go_ret
      exact ⟨-1, rfl, hx, .inl ⟨rfl, HN.out⟩⟩

def DelF (l : List Fc) (p : Fc → Bool) (base : Nat) (w : World) (e : Ending) (w' : World) : Prop :=
  ∃ (m : List Fc) (A' : Option Addr) (c' : Nat), m = (l.filter fun f => !p f) ∧ e = .returned (.slice A' m.length c') ∧ OF w' base (.slice A' m.length c') m ∧ Below base w w'

theorem filter_allF {l : List Fc} {p : Fc → Bool} (h : ∀ j, j < l.length → p (fat l j) = false) : (l.filter fun f => !p f) = l := by
  rw [List.filter_eq_self]
  intro f hf
  obtain ⟨i, hi, rfl⟩ := List.mem_iff_getElem.1 hf
  have := h i hi
  have e : fat l i = l[i] := by simp [fat, hi]
  rw [e] at this; simp [this]
/-- What the loop of DeleteFunc keeps. -/
structure DStF (l : List Fc) (p : Fc → Bool) (i j : Nat) (m : List Fc) : Prop where
  len : m.length = l.length
  head : m.take i = (l.take j).filter fun f => !p f
  tail : m.drop j = l.drop j
  lt : i < j
  le : j ≤ l.length
theorem DStF.start {l : List Fc} {p : Fc → Bool} {k : Nat} (hk : k < l.length) (hp : p (fat l k) = true) (hno : ∀ j, j < k → p (fat l j) = false) : DStF l p k (k + 1) l := by
  refine ⟨rfl, ?_, rfl, by omega, hk⟩
  have e : l.take (k + 1) = l.take k ++ [fat l k] := by rw [List.take_succ_eq_append_getElem hk]; simp [fat, hk]
  rw [e, List.filter_append]
  have h1 : ((l.take k).filter fun f => !p f) = l.take k := filter_allF fun j hj => by
    have hjk : j < k := by simp at hj; omega
    have e2 : fat (l.take k) j = fat l j := by simp [fat, hjk]
    rw [e2]; exact hno j hjk
  rw [h1]; simp [hp]
theorem DStF.elem {l : List Fc} {p : Fc → Bool} {i j : Nat} {m : List Fc} (h : DStF l p i j m) : fat m j = fat l j := by
  have e : (m.drop j)[0]? = (l.drop j)[0]? := by rw [h.tail]
  simp only [List.getElem?_drop, Nat.add_zero] at e
  simp [fat, e]
theorem DStF.skip {l : List Fc} {p : Fc → Bool} {i j : Nat} {m : List Fc} (h : DStF l p i j m) (hj : j < l.length) (hp : p (fat l j) = true) : DStF l p i (j + 1) m := by
  refine ⟨h.len, ?_, ?_, by have := h.lt; omega, hj⟩
  · have e : l.take (j + 1) = l.take j ++ [fat l j] := by rw [List.take_succ_eq_append_getElem hj]; simp [fat, hj]
    rw [e, List.filter_append, ← h.head]; simp [hp]
  · rw [← List.drop_drop, ← List.drop_drop, h.tail]
theorem DStF.keep {l : List Fc} {p : Fc → Bool} {i j : Nat} {m : List Fc} (h : DStF l p i j m) (hj : j < l.length) (hp : p (fat l j) = false) : DStF l p (i + 1) (j + 1) (m.set i (fat l j)) := by
  have hlt := h.lt
  have hlen := h.len
  refine ⟨by simp [h.len], ?_, ?_, by omega, hj⟩
  · have e : l.take (j + 1) = l.take j ++ [fat l j] := by rw [List.take_succ_eq_append_getElem hj]; simp [fat, hj]
    rw [e, List.filter_append, ← h.head, List.take_succ_eq_append_getElem (by simp; omega)]
    simp [hp, List.take_set_of_le]
  · rw [List.drop_set_of_lt (by omega), ← List.drop_drop, ← List.drop_drop, h.tail]
theorem DStF.done {l : List Fc} {p : Fc → Bool} {i j : Nat} {m : List Fc} (h : DStF l p i j m) (hj : l.length ≤ j) : (l.filter fun f => !p f) = m.take i ∧ (m.take i).length = i := by
  have := h.lt; have := h.le; have := h.len
  refine ⟨by rw [h.head, List.take_of_length_le hj], by rw [List.length_take]; omega⟩
theorem OF.cut {l : List Fc} (i : Nat) : (fcells l).take (i * 6) = fcells (l.take i) := by
  induction l generalizing i with
  | nil => simp [fcells]
  | cons f l ih =>
    cases i with
    | zero => simp [fcells]
    | succ i =>
      have e : (i + 1) * 6 = 6 + i * 6 := by omega
      have h1 : (Fc.cells f).length = 6 := rfl
      have ih' := ih i
      simp only [fcells, List.flatMap_cons, List.take_succ_cons] at ih' ⊢
      rw [e, ← h1, List.take_length_add_append, h1, ih']

set_option maxRecDepth 100000 in
set_option maxHeartbeats 2000000 in
theorem delF_any (A : Option Addr) (n c base : Nat) (l : List Fc) (x : Int) (bc : Nat) (w : World) (hn : l.length = n) (hl : n ≤ 100000) (h : OF w base (.slice A n c) l) (hbase : base ≤ w.heap.size) (hc : w.cell? ⟨bc, 0, none⟩ = some (.int .i64 x)) (hb : bc < base) :
    Calls Try.prog 42 #[.slice A n c, .func (.func 43) #[] #[.pointer (some ⟨bc, 0, none⟩)]] w (DelF l (pDay x) base w) := by
  have hsf : SF w w.heap.size A n l := by
    obtain ⟨A9, c9, e9, _, h9⟩ := OF.form h
    injection e9 with e1 e2 e3
    subst e1; rw [e2]; exact h9
  have hcn : n ≤ c := by
    obtain ⟨A9, c9, e9, h8, h9⟩ := OF.form h
    injection e9 with e1 e2 e3
    omega
  have hA : 0 < n → ∃ g, A = some ⟨g, 0, none⟩ ∧ base ≤ g := fun h0 => by
    obtain ⟨A9, c9, e9, _, hh⟩ := own_form h
    injection e9 with e1 e2 e3
    subst e1
    rcases hh with ⟨_, h9, _⟩ | ⟨g, h8, h7, _⟩
    · omega
    · exact ⟨g, h8, h7⟩
  subst hn
  have HO := Lib.hid h; clear h
  have HSF := Lib.hid hsf; clear hsf
  have HC := Lib.hid hc; clear hc
  have HA := Lib.hid hA; clear hA
  go_enter Try.func42, Try.ntmps42
  go_wp2_with fail
  refine (idxF_any A l.length c l x bc _ hl HSF.out HC.out (by omega)).mono ?_
  rintro e w1 ⟨r, rfl, hx1, ⟨rfl, hno⟩ | ⟨k, rfl, hk, hpk, hno⟩⟩
  · have HN := Lib.hid hno; clear hno
    go_wp2
    go_ret
    exact ⟨l, A, c, (filter_allF HN.out).symm, rfl, HO.out.ext hx1, Below.mono hx1 hbase⟩
  · obtain ⟨g, rfl, hgb⟩ := HA.out (by omega)
    have hds := DStF.start hk hpk hno
    have HDS := Lib.hid hds
    have hk1 : ((k : Int) == -1) = false := by rw [beq_eq_false_iff_ne]; omega
    have hcb : w1.cell? ⟨bc, 0, none⟩ = some (.int .i64 x) := (hx1.cells.1 bc 0 (by omega)).trans HC.out
    have HCB := Lib.hid hcb
    have HO1 := Lib.hid (HO.out.ext hx1)
    clear hds hno hpk HSF HA HO HC hcb
    go_wp2
    clear hk1
    go_loopw [5, 6] (fun ii jj wr => ∃ (i j : Nat) (m : List Fc), ii = .int .i64 i ∧ jj = .int .i64 j ∧ DStF l (pDay x) i j m ∧ OF wr base (.slice (some ⟨g, 0, none⟩) l.length c) m ∧ w1.grownBy wr (some g)) (fun _ jj _ => l.length - (intOf jj).toNat)
    case atStart => exact ⟨k, k + 1, l, rfl, by go_num, HDS.out, HO1.out, World.grownBy.refl _ _⟩
    case round =>
      clear HDS HO1
      obtain ⟨i, j, m, rfl, rfl, hd, hof, hg⟩ := hrel
      have hij := hd.lt
      have hjn := hd.le
      have hml := hd.len
      have hcb : wr.cell? ⟨bc, 0, none⟩ = some (.int .i64 x) := (World.cell?_of_block (hg.block bc (by have := hx1.lt; omega) (fun e => by injection e with e; omega))).trans HCB.out
      have hsz : bc < wr.heap.size := by have := hg.size; have := hx1.lt; omega
      by_cases hlt : j < l.length
      · have hlt' : (j : Int) < l.length := by omega
        have hil : (i : Int) < l.length := by omega
        have hel := hd.elem
        obtain ⟨c0, c1, c2, c3, c4, c5⟩ := hof.at_ hml (k := j) hlt
        rw [hel] at c0  c1  c2  c3  c4  c5
        have HD := Lib.hid hd
        have HML := Lib.hid hml
        have HOF := Lib.hid hof
        have HG := Lib.hid hg
        have HCB2 := Lib.hid hcb
        clear hd hml hof hg hcb hel
        cases hp : pDay x (fat l j)
        · have HP := Lib.hid hp
          go_wp2_with fail
          refine (clo43_any x bc (fat l j) _ (by rw [World.cell?_alloc_lt _ _ _ (by exact hsz)]; exact HCB2.out) (lt_alloc hsz _)).mono ?_
          rintro e w2 ⟨rfl, hx2⟩
          rw [hp]
          have hx3 : Ext wr w2 := ((Ext.refl wr).alloc _).trans hx2
          have hbk := (Bk.new wr 30 _).ext hx2
          have HBK := Lib.hid hbk
          obtain ⟨q1, p1⟩ := hbk.cells
          have hof2 := HOF.out.ext hx3
          obtain ⟨d0, d1, d2, d3, d4, d5⟩ := hof2.at_ HML.out (k := i) (by omega)
          have hfz := hof2.frozen HML.out
          obtain ⟨o3, g3⟩ := hof2.put HML.out (k := i) (by omega) (fat l j)
          have O3 := Lib.hid o3
          have G3 := Lib.hid ((HG.out.andThen (grownBy_ext hx3 (some g)) (fun _ e => .inr e)).andThen g3 (fun _ e => .inr e))
          have D3 := Lib.hid (HD.out.keep hlt hp)
          clear hbk hof2 o3 g3 hx2 hx3 hp c0  c1  c2  c3  c4  c5
          go_wp2
          exact ⟨⟨i + 1, j + 1, _, by go_num, by go_num, D3.out, O3.out, G3.out⟩, by simp [intOf]; omega⟩
        · have HP := Lib.hid hp
          go_wp2_with fail
          refine (clo43_any x bc (fat l j) _ (by rw [World.cell?_alloc_lt _ _ _ (by exact hsz)]; exact HCB2.out) (lt_alloc hsz _)).mono ?_
          rintro e w2 ⟨rfl, hx2⟩
          rw [hp]
          have hx3 : Ext wr w2 := ((Ext.refl wr).alloc _).trans hx2
          have G3 := Lib.hid (HG.out.andThen (grownBy_ext hx3 (some g)) (fun _ e => .inr e))
          have O3 := Lib.hid (HOF.out.ext hx3)
          have D3 := Lib.hid (HD.out.skip hlt hp)
          clear hx2 hx3 hp c0  c1  c2  c3  c4  c5
          go_wp2
          exact ⟨⟨i, j + 1, m, rfl, by go_num, D3.out, O3.out, G3.out⟩, by simp [intOf]; omega⟩
      · obtain ⟨hf, hfl⟩ := hd.done (by omega)
        have hof' : wr.ownsRow base 30 6 (.slice (some ⟨g, 0, none⟩) l.length c) l.length (fcells m) := by have h9 := hof; unfold OF at h9; rwa [hml] at h9
        obtain ⟨w4, hrun, how, hg4⟩ := run_clear_own (P := Try.prog) (ty := 0) (size := 6) Try.underlying38 (zero30 wr) rfl (by intro u hu; simp [Value.cells] at hu; rcases hu with rfl | rfl | rfl | rfl | rfl | rfl <;> rfl) hof' (i := i) (by omega) (c - i) (some ⟨g, i * 6, none⟩) (fun _ => rfl)
        rw [OF.cut] at how
        have hci : ¬ c = i := by omega
        have hil : (i : Int) ≤ l.length := by omega
        have hil2 : (i : Int) ≤ c := by omega
        have hil3 : i ≤ c := by omega
        have hbw : Below base w w4 := Below.trans (Below.mono hx1 hbase) (((Below.refl base w1).grown hg (by have := hx1.lt; omega) (fun k e => by injection e with e; omega)).trans ((Below.refl base wr).grown hg4 (by have := hg.size; have := hx1.lt; omega) (fun k e => by injection e with e; omega)))
        have HOW := Lib.hid how
        have HF := Lib.hid hf
        have HFL := Lib.hid hfl
        have HBW := Lib.hid hbw
        clear how hf hfl hbw hof hof' hg hg4 hcb hd hml
        go_wp2_with (refine wpList_clear_run (x := .tmp 38) hrun rfl rfl rfl rfl ?_)
        go_ret
        refine ⟨m.take i, some ⟨g, 0, none⟩, c, HF.out.symm, by rw [HFL.out]; rfl, ?_, HBW.out⟩
        unfold OF
        rw [HFL.out]
        exact HOW.out

def IdxV (l : List Vr) (p : Vr → Bool) (w : World) (e : Ending) (w' : World) : Prop :=
  ∃ r : Int, e = .returned (.int .i64 r) ∧ Ext w w' ∧ (r = -1 ∧ (∀ j, j < l.length → p (vat l j) = false) ∨ ∃ k : Nat, r = k ∧ k < l.length ∧ p (vat l k) = true ∧ ∀ j, j < k → p (vat l j) = false)
set_option maxRecDepth 100000 in
set_option maxHeartbeats 1000000 in
theorem idxV_any (A : Option Addr) (n c : Nat) (l : List Vr) (x : Int) (bc : Nat) (w : World) (hl : n ≤ 100000) (h : SV w w.heap.size A n l) (hc : w.cell? ⟨bc, 0, none⟩ = some (.int .i64 x)) (hb : bc < w.heap.size) :
    Calls Try.prog 55 #[.slice A n c, .func (.func 45) #[] #[.pointer (some ⟨bc, 0, none⟩)]] w (IdxV l (pEn x) w) := by
  obtain rfl : l.length = n := h.1
  have HS := Lib.hid h; clear h
  have HC := Lib.hid hc; clear hc
  go_enter Try.func55, Try.ntmps55
  go_wp2
  go_loopw [8] (fun i wr => ∃ k : Nat, k ≤ l.length ∧ i = .int .i64 k ∧ (∀ j, j < k → pEn x (vat l j) = false) ∧ Ext w wr) (fun i _ => l.length - (intOf i).toNat)
  case atStart => exact ⟨0, Nat.zero_le _, rfl, fun j h => absurd h (by omega), Ext.refl _⟩
  case round =>
    obtain ⟨k, hk, rfl, hno, hx⟩ := hrel
    have HN := Lib.hid hno; clear hno
    by_cases hlt : k < l.length
    · have hlt' : (k : Int) < l.length := by omega
      obtain ⟨b, off, rfl, hb2, c0, c1, c2, c3, c4, c5, c6, c7⟩ := SV.at_ (SV.lift HS.out (Nat.le_refl _) hx) (k := k) hlt
      have hcc : wr.cell? ⟨bc, 0, none⟩ = some (.int .i64 x) := (hx.cells.1 bc 0 hb).trans HC.out
      have HCC := Lib.hid hcc; clear hcc
      have hbw : bc < wr.heap.size := Nat.lt_of_lt_of_le hb hx.lt
      cases hp : pEn x (vat l k)
      · have HP := Lib.hid hp
        go_wp2_with (first | (go_at_call 45; refine (clo45_any x bc (vat l k) _ HCC.out hbw).mono ?_; rintro e w1 ⟨rfl, hx1⟩))
        exact ⟨⟨k + 1, by omega, by go_num, fun j h => (by
          by_cases e : j = k
          · subst e; exact HP.out
          · exact HN.out j (by omega)), hx.trans hx1⟩, by simp [intOf]; omega⟩
      · have HP := Lib.hid hp
        go_wp2_with (first | (go_at_call 45; refine (clo45_any x bc (vat l k) _ HCC.out hbw).mono ?_; rintro e w1 ⟨rfl, hx1⟩))
        go_ret
        exact ⟨k, rfl, hx.trans hx1, .inr ⟨k, rfl, hlt, HP.out, HN.out⟩⟩
    · obtain rfl : k = l.length := by omega
      go_wp2
      go_ret
      exact ⟨-1, rfl, hx, .inl ⟨rfl, HN.out⟩⟩

def DelV (l : List Vr) (p : Vr → Bool) (base : Nat) (w : World) (e : Ending) (w' : World) : Prop :=
  ∃ (m : List Vr) (A' : Option Addr) (c' : Nat), m = (l.filter fun f => !p f) ∧ e = .returned (.slice A' m.length c') ∧ OV w' base (.slice A' m.length c') m ∧ Below base w w'

theorem filter_allV {l : List Vr} {p : Vr → Bool} (h : ∀ j, j < l.length → p (vat l j) = false) : (l.filter fun f => !p f) = l := by
  rw [List.filter_eq_self]
  intro f hf
  obtain ⟨i, hi, rfl⟩ := List.mem_iff_getElem.1 hf
  have := h i hi
  have e : vat l i = l[i] := by simp [vat, hi]
  rw [e] at this; simp [this]
/-- What the loop of DeleteFunc keeps. -/
structure DStV (l : List Vr) (p : Vr → Bool) (i j : Nat) (m : List Vr) : Prop where
  len : m.length = l.length
  head : m.take i = (l.take j).filter fun f => !p f
  tail : m.drop j = l.drop j
  lt : i < j
  le : j ≤ l.length
theorem DStV.start {l : List Vr} {p : Vr → Bool} {k : Nat} (hk : k < l.length) (hp : p (vat l k) = true) (hno : ∀ j, j < k → p (vat l j) = false) : DStV l p k (k + 1) l := by
  refine ⟨rfl, ?_, rfl, by omega, hk⟩
  have e : l.take (k + 1) = l.take k ++ [vat l k] := by rw [List.take_succ_eq_append_getElem hk]; simp [vat, hk]
  rw [e, List.filter_append]
  have h1 : ((l.take k).filter fun f => !p f) = l.take k := filter_allV fun j hj => by
    have hjk : j < k := by simp at hj; omega
    have e2 : vat (l.take k) j = vat l j := by simp [vat, hjk]
    rw [e2]; exact hno j hjk
  rw [h1]; simp [hp]
theorem DStV.elem {l : List Vr} {p : Vr → Bool} {i j : Nat} {m : List Vr} (h : DStV l p i j m) : vat m j = vat l j := by
  have e : (m.drop j)[0]? = (l.drop j)[0]? := by rw [h.tail]
  simp only [List.getElem?_drop, Nat.add_zero] at e
  simp [vat, e]
theorem DStV.skip {l : List Vr} {p : Vr → Bool} {i j : Nat} {m : List Vr} (h : DStV l p i j m) (hj : j < l.length) (hp : p (vat l j) = true) : DStV l p i (j + 1) m := by
  refine ⟨h.len, ?_, ?_, by have := h.lt; omega, hj⟩
  · have e : l.take (j + 1) = l.take j ++ [vat l j] := by rw [List.take_succ_eq_append_getElem hj]; simp [vat, hj]
    rw [e, List.filter_append, ← h.head]; simp [hp]
  · rw [← List.drop_drop, ← List.drop_drop, h.tail]
theorem DStV.keep {l : List Vr} {p : Vr → Bool} {i j : Nat} {m : List Vr} (h : DStV l p i j m) (hj : j < l.length) (hp : p (vat l j) = false) : DStV l p (i + 1) (j + 1) (m.set i (vat l j)) := by
  have hlt := h.lt
  have hlen := h.len
  refine ⟨by simp [h.len], ?_, ?_, by omega, hj⟩
  · have e : l.take (j + 1) = l.take j ++ [vat l j] := by rw [List.take_succ_eq_append_getElem hj]; simp [vat, hj]
    rw [e, List.filter_append, ← h.head, List.take_succ_eq_append_getElem (by simp; omega)]
    simp [hp, List.take_set_of_le]
  · rw [List.drop_set_of_lt (by omega), ← List.drop_drop, ← List.drop_drop, h.tail]
theorem DStV.done {l : List Vr} {p : Vr → Bool} {i j : Nat} {m : List Vr} (h : DStV l p i j m) (hj : l.length ≤ j) : (l.filter fun f => !p f) = m.take i ∧ (m.take i).length = i := by
  have := h.lt; have := h.le; have := h.len
  refine ⟨by rw [h.head, List.take_of_length_le hj], by rw [List.length_take]; omega⟩
theorem OV.cut {l : List Vr} (i : Nat) : (vcells l).take (i * 8) = vcells (l.take i) := by
  induction l generalizing i with
  | nil => simp [vcells]
  | cons f l ih =>
    cases i with
    | zero => simp [vcells]
    | succ i =>
      have e : (i + 1) * 8 = 8 + i * 8 := by omega
      have h1 : (Vr.cells f).length = 8 := rfl
      have ih' := ih i
      simp only [vcells, List.flatMap_cons, List.take_succ_cons] at ih' ⊢
      rw [e, ← h1, List.take_length_add_append, h1, ih']

set_option maxRecDepth 100000 in
set_option maxHeartbeats 2000000 in
theorem delV_any (A : Option Addr) (n c base : Nat) (l : List Vr) (x : Int) (bc : Nat) (w : World) (hn : l.length = n) (hl : n ≤ 100000) (h : OV w base (.slice A n c) l) (hbase : base ≤ w.heap.size) (hc : w.cell? ⟨bc, 0, none⟩ = some (.int .i64 x)) (hb : bc < base) :
    Calls Try.prog 44 #[.slice A n c, .func (.func 45) #[] #[.pointer (some ⟨bc, 0, none⟩)]] w (DelV l (pEn x) base w) := by
  have hsf : SV w w.heap.size A n l := by
    obtain ⟨A9, c9, e9, _, h9⟩ := OV.form h
    injection e9 with e1 e2 e3
    subst e1; rw [e2]; exact h9
  have hcn : n ≤ c := by
    obtain ⟨A9, c9, e9, h8, h9⟩ := OV.form h
    injection e9 with e1 e2 e3
    omega
  have hA : 0 < n → ∃ g, A = some ⟨g, 0, none⟩ ∧ base ≤ g := fun h0 => by
    obtain ⟨A9, c9, e9, _, hh⟩ := own_form h
    injection e9 with e1 e2 e3
    subst e1
    rcases hh with ⟨_, h9, _⟩ | ⟨g, h8, h7, _⟩
    · omega
    · exact ⟨g, h8, h7⟩
  subst hn
  have HO := Lib.hid h; clear h
  have HSF := Lib.hid hsf; clear hsf
  have HC := Lib.hid hc; clear hc
  have HA := Lib.hid hA; clear hA
  go_enter Try.func44, Try.ntmps44
  go_wp2_with fail
  refine (idxV_any A l.length c l x bc _ hl HSF.out HC.out (by omega)).mono ?_
  rintro e w1 ⟨r, rfl, hx1, ⟨rfl, hno⟩ | ⟨k, rfl, hk, hpk, hno⟩⟩
  · have HN := Lib.hid hno; clear hno
    go_wp2
    go_ret
    exact ⟨l, A, c, (filter_allV HN.out).symm, rfl, HO.out.ext hx1, Below.mono hx1 hbase⟩
  · obtain ⟨g, rfl, hgb⟩ := HA.out (by omega)
    have hds := DStV.start hk hpk hno
    have HDS := Lib.hid hds
    have hk1 : ((k : Int) == -1) = false := by rw [beq_eq_false_iff_ne]; omega
    have hcb : w1.cell? ⟨bc, 0, none⟩ = some (.int .i64 x) := (hx1.cells.1 bc 0 (by omega)).trans HC.out
    have HCB := Lib.hid hcb
    have HO1 := Lib.hid (HO.out.ext hx1)
    clear hds hno hpk HSF HA HO HC hcb
    go_wp2
    clear hk1
    go_loopw [5, 6] (fun ii jj wr => ∃ (i j : Nat) (m : List Vr), ii = .int .i64 i ∧ jj = .int .i64 j ∧ DStV l (pEn x) i j m ∧ OV wr base (.slice (some ⟨g, 0, none⟩) l.length c) m ∧ w1.grownBy wr (some g)) (fun _ jj _ => l.length - (intOf jj).toNat)
    case atStart => exact ⟨k, k + 1, l, rfl, by go_num, HDS.out, HO1.out, World.grownBy.refl _ _⟩
    case round =>
      clear HDS HO1
      obtain ⟨i, j, m, rfl, rfl, hd, hof, hg⟩ := hrel
      have hij := hd.lt
      have hjn := hd.le
      have hml := hd.len
      have hcb : wr.cell? ⟨bc, 0, none⟩ = some (.int .i64 x) := (World.cell?_of_block (hg.block bc (by have := hx1.lt; omega) (fun e => by injection e with e; omega))).trans HCB.out
      have hsz : bc < wr.heap.size := by have := hg.size; have := hx1.lt; omega
      by_cases hlt : j < l.length
      · have hlt' : (j : Int) < l.length := by omega
        have hil : (i : Int) < l.length := by omega
        have hel := hd.elem
        obtain ⟨c0, c1, c2, c3, c4, c5, c6, c7⟩ := hof.at_ hml (k := j) hlt
        rw [hel] at c0  c1  c2  c3  c4  c5  c6  c7
        have HD := Lib.hid hd
        have HML := Lib.hid hml
        have HOF := Lib.hid hof
        have HG := Lib.hid hg
        have HCB2 := Lib.hid hcb
        clear hd hml hof hg hcb hel
        cases hp : pEn x (vat l j)
        · have HP := Lib.hid hp
          go_wp2_with fail
          refine (clo45_any x bc (vat l j) _ (by rw [World.cell?_alloc_lt _ _ _ (by exact hsz)]; exact HCB2.out) (lt_alloc hsz _)).mono ?_
          rintro e w2 ⟨rfl, hx2⟩
          rw [hp]
          have hx3 : Ext wr w2 := ((Ext.refl wr).alloc _).trans hx2
          have hbk := (Bk.new wr 32 _).ext hx2
          have HBK := Lib.hid hbk
          obtain ⟨q1, p1⟩ := hbk.cells
          have hof2 := HOF.out.ext hx3
          obtain ⟨d0, d1, d2, d3, d4, d5, d6, d7⟩ := hof2.at_ HML.out (k := i) (by omega)
          have hfz := hof2.frozen HML.out
          obtain ⟨o3, g3⟩ := hof2.put HML.out (k := i) (by omega) (vat l j)
          have O3 := Lib.hid o3
          have G3 := Lib.hid ((HG.out.andThen (grownBy_ext hx3 (some g)) (fun _ e => .inr e)).andThen g3 (fun _ e => .inr e))
          have D3 := Lib.hid (HD.out.keep hlt hp)
          clear hbk hof2 o3 g3 hx2 hx3 hp c0  c1  c2  c3  c4  c5  c6  c7
          go_wp2
          exact ⟨⟨i + 1, j + 1, _, by go_num, by go_num, D3.out, O3.out, G3.out⟩, by simp [intOf]; omega⟩
        · have HP := Lib.hid hp
          go_wp2_with fail
          refine (clo45_any x bc (vat l j) _ (by rw [World.cell?_alloc_lt _ _ _ (by exact hsz)]; exact HCB2.out) (lt_alloc hsz _)).mono ?_
          rintro e w2 ⟨rfl, hx2⟩
          rw [hp]
          have hx3 : Ext wr w2 := ((Ext.refl wr).alloc _).trans hx2
          have G3 := Lib.hid (HG.out.andThen (grownBy_ext hx3 (some g)) (fun _ e => .inr e))
          have O3 := Lib.hid (HOF.out.ext hx3)
          have D3 := Lib.hid (HD.out.skip hlt hp)
          clear hx2 hx3 hp c0  c1  c2  c3  c4  c5  c6  c7
          go_wp2
          exact ⟨⟨i, j + 1, m, rfl, by go_num, D3.out, O3.out, G3.out⟩, by simp [intOf]; omega⟩
      · obtain ⟨hf, hfl⟩ := hd.done (by omega)
        have hof' : wr.ownsRow base 32 8 (.slice (some ⟨g, 0, none⟩) l.length c) l.length (vcells m) := by have h9 := hof; unfold OV at h9; rwa [hml] at h9
        obtain ⟨w4, hrun, how, hg4⟩ := run_clear_own (P := Try.prog) (ty := 0) (size := 8) Try.underlying22 (zero32 wr) rfl (by intro u hu; simp [Value.cells] at hu; rcases hu with rfl | rfl | rfl | rfl | rfl | rfl | rfl | rfl <;> rfl) hof' (i := i) (by omega) (c - i) (some ⟨g, i * 8, none⟩) (fun _ => rfl)
        rw [OV.cut] at how
        have hci : ¬ c = i := by omega
        have hil : (i : Int) ≤ l.length := by omega
        have hil2 : (i : Int) ≤ c := by omega
        have hil3 : i ≤ c := by omega
        have hbw : Below base w w4 := Below.trans (Below.mono hx1 hbase) (((Below.refl base w1).grown hg (by have := hx1.lt; omega) (fun k e => by injection e with e; omega)).trans ((Below.refl base wr).grown hg4 (by have := hg.size; have := hx1.lt; omega) (fun k e => by injection e with e; omega)))
        have HOW := Lib.hid how
        have HF := Lib.hid hf
        have HFL := Lib.hid hfl
        have HBW := Lib.hid hbw
        clear how hf hfl hbw hof hof' hg hg4 hcb hd hml
        go_wp2_with (refine wpList_clear_run (x := .tmp 38) hrun rfl rfl rfl rfl ?_)
        go_ret
        refine ⟨m.take i, some ⟨g, 0, none⟩, c, HF.out.symm, by rw [HFL.out]; rfl, ?_, HBW.out⟩
        unfold OV
        rw [HFL.out]
        exact HOW.out
end Go.Proofs.Ythjjdeabfnlbjaa
