/- The contracts of slices.IndexFunc and slices.DeleteFunc at facts and at versions, with the closures of facts.Known and facts.History. -/
import Derived.Test.YtngjghblpbdciaaGreatDoorMa
import Derived.Deep.RegionLaw
import Derived.OrdersHeld
import Derived.RegionTactic
namespace Go.Proofs.YtngjghblpbdciaaGreatDoor.Fa
open Go Go.RowKit

def PredPost (b : Bool) (w : World) (e : Ending) (w' : World) : Prop := e = .returned (.bool b) ∧ Ext w w'
def pDay (x : Int) (f : Fc) : Bool := decide (x < f.day)
def pEn (x : Int) (v : Vr) : Bool := v.fc.en != x
theorem clo43_any (x : Int) (bc : Nat) (f : Fc) (w : World) (hc : w.cell? ⟨bc, 0, none⟩ = some (.int .i64 x)) (hb : bc < w.heap.size) : Calls Tryz.prog 52 #[f.val, .pointer (some ⟨bc, 0, none⟩)] w (PredPost (pDay x f) w) := by
  unfold Fc.val
  go_enter Tryz.func52, Tryz.ntmps52
  go_wp2
  go_ret
  exact ⟨ret_bool rfl, (Ext.refl _).alloc _⟩
theorem clo45_any (x : Int) (bc : Nat) (v : Vr) (w : World) (hc : w.cell? ⟨bc, 0, none⟩ = some (.int .i64 x)) (hb : bc < w.heap.size) : Calls Tryz.prog 47 #[v.val, .pointer (some ⟨bc, 0, none⟩)] w (PredPost (pEn x v) w) := by
  unfold Vr.val
  go_enter Tryz.func47, Tryz.ntmps47
  go_wp2
  go_ret
  exact ⟨ret_bool rfl, (Ext.refl _).alloc _⟩
theorem wpList_clear_run {P : Program} {w : World} {ops : Array Oper} {rest : List Oper} {o : Oper} {a : Act} {Q : Exit → Act → World → Prop} {x : Operand} {t : TypeId} {vx v' : Value} {w' : World}
    (hr : (Builtin.clear_ #[t] 0 #[vx]).run P w = .ok v' w') (hgd : o.guard = none)
    (ho : o.op = .call { callee := .builtin .clear, args := #[x], argTypes := #[t] }) (hty : o.type = 0) (hx : a.eval x = vx)
    (h : wpList P ops Q rest (a.put o.dst v') w') : wpList P ops Q (o :: rest) a w := by
  refine wpList_plain hgd fun _ hK => ?_
  unfold Oper.wp execOp
  simp only [ho, hty, resolve, invoke, builtin, Sem.run_bind, Sem.run_pure, Result.andThen_ok, List.map_toArray, List.map_cons, List.map_nil, hx, hr]
  exact hK _ _ h
theorem zero30 (w : World) : (zeroValue 24).run Tryz.prog w = .ok (.agg #[.int .i64 0, .string ⟨#[]⟩, .int .i64 0, .int .i64 0, .int .i64 0, .int .i64 0]) w := by kernel_rfl
theorem zero32 (w : World) : (zeroValue 26).run Tryz.prog w = .ok (.agg #[.int .i64 0, .bool false, .int .i64 0, .string ⟨#[]⟩, .int .i64 0, .int .i64 0, .int .i64 0, .int .i64 0]) w := by kernel_rfl

theorem vcells_set (l : List Vr) (v : Vr) : ∀ (k : Nat), k < l.length → vcells (l.set k v) = ((((((((vcells l).set (k * 8) (.int .i64 v.op)).set (k * 8 + 1) (.bool v.st)).set (k * 8 + 2) (.int .i64 v.fc.en)).set (k * 8 + 3) (.string v.fc.kd)).set (k * 8 + 4) (.int .i64 v.fc.day)).set (k * 8 + 5) (.int .i64 v.fc.byy)).set (k * 8 + 6) (.int .i64 v.fc.too)).set (k * 8 + 7) (.int .i64 v.fc.am) := by
  induction l with
  | nil => intro k h; simp at h
  | cons x l ih =>
    intro k h
    cases k with
    | zero => rfl
    | succ k =>
      have ih' := ih k (by simpa using h)
      simp only [vcells, List.set_cons_succ, List.flatMap_cons] at ih' ⊢
      rw [ih']
      have e0 : (k + 1) * 8 = (k * 8) + 1 + 1 + 1 + 1 + 1 + 1 + 1 + 1 := by omega
      simp only [Vr.cells, List.cons_append, List.nil_append, e0, List.set_cons_succ]
theorem OV.at_ {w : World} {base g cap n : Nat} {l : List Vr} (h : OV w base (.slice (some ⟨g, 0, none⟩) n cap) l) (hn : l.length = n) {k : Nat} (hk : k < n) :
    (w.cell? ⟨g, k * 8, none⟩ = some (.int .i64 (vat l k).op) ∧ w.cell? ⟨g, k * 8 + 1, none⟩ = some (.bool (vat l k).st) ∧ w.cell? ⟨g, k * 8 + 2, none⟩ = some (.int .i64 (vat l k).fc.en) ∧ w.cell? ⟨g, k * 8 + 3, none⟩ = some (.string (vat l k).fc.kd) ∧
    w.cell? ⟨g, k * 8 + 4, none⟩ = some (.int .i64 (vat l k).fc.day) ∧ w.cell? ⟨g, k * 8 + 5, none⟩ = some (.int .i64 (vat l k).fc.byy) ∧ w.cell? ⟨g, k * 8 + 6, none⟩ = some (.int .i64 (vat l k).fc.too) ∧ w.cell? ⟨g, k * 8 + 7, none⟩ = some (.int .i64 (vat l k).fc.am)) := by
  subst hn
  have c : ∀ j, j < 8 → w.cell? ⟨g, k * 8 + j, none⟩ = (vat l k).cells[j]? := fun j hj => by
    rw [World.ownsRow.cellAt h (k * 8 + j) (by omega)]; exact vcells_at l k hk j hj
  exact ⟨c 0 (by omega), c 1 (by omega), c 2 (by omega), c 3 (by omega), c 4 (by omega), c 5 (by omega), c 6 (by omega), c 7 (by omega)⟩
theorem OV.frozen {w : World} {base g cap n : Nat} {l : List Vr} (h : OV w base (.slice (some ⟨g, 0, none⟩) n cap) l) (hn : l.length = n) : ∀ i, w.frozen? ⟨g, i, none⟩ = false := by
  subst hn; exact World.ownsRow.frozenAt h
theorem OV.put {w : World} {base g cap n : Nat} {l : List Vr} (h : OV w base (.slice (some ⟨g, 0, none⟩) n cap) l) (hn : l.length = n) {k : Nat} (hk : k < n) (v : Vr) :
    OV ((((((((w.setCell ⟨g, k * 8, none⟩ (.int .i64 v.op)).setCell ⟨g, k * 8 + 1, none⟩ (.bool v.st)).setCell ⟨g, k * 8 + 2, none⟩ (.int .i64 v.fc.en)).setCell ⟨g, k * 8 + 3, none⟩ (.string v.fc.kd)).setCell ⟨g, k * 8 + 4, none⟩ (.int .i64 v.fc.day)).setCell ⟨g, k * 8 + 5, none⟩ (.int .i64 v.fc.byy)).setCell ⟨g, k * 8 + 6, none⟩ (.int .i64 v.fc.too)).setCell ⟨g, k * 8 + 7, none⟩ (.int .i64 v.fc.am)) base (.slice (some ⟨g, 0, none⟩) n cap) (l.set k v) ∧ w.grownBy ((((((((w.setCell ⟨g, k * 8, none⟩ (.int .i64 v.op)).setCell ⟨g, k * 8 + 1, none⟩ (.bool v.st)).setCell ⟨g, k * 8 + 2, none⟩ (.int .i64 v.fc.en)).setCell ⟨g, k * 8 + 3, none⟩ (.string v.fc.kd)).setCell ⟨g, k * 8 + 4, none⟩ (.int .i64 v.fc.day)).setCell ⟨g, k * 8 + 5, none⟩ (.int .i64 v.fc.byy)).setCell ⟨g, k * 8 + 6, none⟩ (.int .i64 v.fc.too)).setCell ⟨g, k * 8 + 7, none⟩ (.int .i64 v.fc.am)) (some g) := by
  subst hn
  obtain ⟨h1, g1⟩ := World.ownsRow.stored h (k * 8) (.int .i64 v.op)
  obtain ⟨h2, g2⟩ := World.ownsRow.stored h1 (k * 8 + 1) (.bool v.st)
  obtain ⟨h3, g3⟩ := World.ownsRow.stored h2 (k * 8 + 2) (.int .i64 v.fc.en)
  obtain ⟨h4, g4⟩ := World.ownsRow.stored h3 (k * 8 + 3) (.string v.fc.kd)
  obtain ⟨h5, g5⟩ := World.ownsRow.stored h4 (k * 8 + 4) (.int .i64 v.fc.day)
  obtain ⟨h6, g6⟩ := World.ownsRow.stored h5 (k * 8 + 5) (.int .i64 v.fc.byy)
  obtain ⟨h7, g7⟩ := World.ownsRow.stored h6 (k * 8 + 6) (.int .i64 v.fc.too)
  obtain ⟨h8, g8⟩ := World.ownsRow.stored h7 (k * 8 + 7) (.int .i64 v.fc.am)
  have e : ∀ j, some g = some j → w.heap.size ≤ j ∨ some g = some j := fun _ e => .inr e
  refine ⟨?_, ((((((g1.andThen g2 e).andThen g3 e).andThen g4 e).andThen g5 e).andThen g6 e).andThen g7 e).andThen g8 e⟩
  unfold OV
  rw [vcells_set l v k hk, List.length_set]
  exact h8

def IdxF (l : List Fc) (p : Fc → Bool) (w : World) (e : Ending) (w' : World) : Prop :=
  ∃ r : Int, e = .returned (.int .i64 r) ∧ Ext w w' ∧ (r = -1 ∧ (∀ j, j < l.length → p (fat l j) = false) ∨ ∃ k : Nat, r = k ∧ k < l.length ∧ p (fat l k) = true ∧ ∀ j, j < k → p (fat l j) = false)
set_option maxRecDepth 100000 in
set_option maxHeartbeats 1000000 in
theorem idxF_any (A : Option Addr) (n c : Nat) (l : List Fc) (x : Int) (bc : Nat) (w : World) (hl : n ≤ 100000) (h : SF w w.heap.size A n l) (hc : w.cell? ⟨bc, 0, none⟩ = some (.int .i64 x)) (hb : bc < w.heap.size) :
    Calls Tryz.prog 72 #[.slice A n c, .func (.func 52) #[] #[.pointer (some ⟨bc, 0, none⟩)]] w (IdxF l (pDay x) w) := by
  obtain rfl : l.length = n := h.1
  have HS := Lib.hid h; clear h
  have HC := Lib.hid hc; clear hc
  go_enter Tryz.func72, Tryz.ntmps72
  go_wp2
  go_loopw [8] (fun i wr => ∃ k : Nat, k ≤ l.length ∧ i = .int .i64 k ∧ (∀ j, j < k → pDay x (fat l j) = false) ∧ Ext w wr) (fun i _ => l.length - (intOf i).toNat)
  case atStart => exact ⟨0, Nat.zero_le _, rfl, fun j h => absurd h (by omega), Ext.refl _⟩
  case round =>
    obtain ⟨k, hk, rfl, hno, hx⟩ := hrel
    have HN := Lib.hid hno; clear hno
    by_cases hlt : k < l.length
    · have hlt' : (k : Int) < l.length := by omega
      obtain ⟨b, off, rfl, hb2, c0, c1, c2, c3, c4, c5⟩ := SF.at_ (SF.lift HS.out (Nat.le_refl _) hx) (k := k) hlt
      have hcc : wr.cell? ⟨bc, 0, none⟩ = some (.int .i64 x) := (hx.cells.1 bc 0 hb).trans HC.out
      have HCC := Lib.hid hcc; clear hcc
      have hbw : bc < wr.heap.size := Nat.lt_of_lt_of_le hb hx.lt
      cases hp : pDay x (fat l k)
      · have HP := Lib.hid hp
        go_wp2_with (first | (go_at_call 52; refine (clo43_any x bc (fat l k) _ HCC.out hbw).mono ?_; rintro e w1 ⟨rfl, hx1⟩))
        exact ⟨⟨k + 1, by omega, by go_num, fun j h => (by
          by_cases e : j = k
          · subst e; exact HP.out
          · exact HN.out j (by omega)), hx.trans hx1⟩, by simp [intOf]; omega⟩
      · have HP := Lib.hid hp
        go_wp2_with (first | (go_at_call 52; refine (clo43_any x bc (fat l k) _ HCC.out hbw).mono ?_; rintro e w1 ⟨rfl, hx1⟩))
        go_ret
        exact ⟨k, rfl, hx.trans hx1, .inr ⟨k, rfl, hlt, HP.out, HN.out⟩⟩
    · obtain rfl : k = l.length := by omega
      go_wp2
      go_ret
      exact ⟨-1, rfl, hx, .inl ⟨rfl, HN.out⟩⟩

def DelF (l : List Fc) (p : Fc → Bool) (base : Nat) (w : World) (e : Ending) (w' : World) : Prop :=
  ∃ (m : List Fc) (A' : Option Addr) (c' : Nat), m = (l.filter fun f => !p f) ∧ e = .returned (.slice A' m.length c') ∧ OF w' base (.slice A' m.length c') m ∧ Below base w w'

theorem filter_allF {l : List Fc} {p : Fc → Bool} (h : ∀ j, j < l.length → p (fat l j) = false) : (l.filter fun f => !p f) = l := by
  rw [List.filter_eq_self]
  intro f hf
  obtain ⟨i, hi, rfl⟩ := List.mem_iff_getElem.1 hf
  have := h i hi
  have e : fat l i = l[i] := by simp [fat, hi]
  rw [e] at this; simp [this]
/-- What the loop of DeleteFunc keeps. -/
structure DStF (l : List Fc) (p : Fc → Bool) (i j : Nat) (m : List Fc) : Prop where
  len : m.length = l.length
  head : m.take i = (l.take j).filter fun f => !p f
  tail : m.drop j = l.drop j
  lt : i < j
  le : j ≤ l.length
theorem DStF.start {l : List Fc} {p : Fc → Bool} {k : Nat} (hk : k < l.length) (hp : p (fat l k) = true) (hno : ∀ j, j < k → p (fat l j) = false) : DStF l p k (k + 1) l := by
  refine ⟨rfl, ?_, rfl, by omega, hk⟩
  have e : l.take (k + 1) = l.take k ++ [fat l k] := by rw [List.take_succ_eq_append_getElem hk]; simp [fat, hk]
  rw [e, List.filter_append]
  have h1 : ((l.take k).filter fun f => !p f) = l.take k := filter_allF fun j hj => by
    have hjk : j < k := by simp at hj; omega
    have e2 : fat (l.take k) j = fat l j := by simp [fat, hjk]
    rw [e2]; exact hno j hjk
  rw [h1]; simp [hp]
theorem DStF.elem {l : List Fc} {p : Fc → Bool} {i j : Nat} {m : List Fc} (h : DStF l p i j m) : fat m j = fat l j := by
  have e : (m.drop j)[0]? = (l.drop j)[0]? := by rw [h.tail]
  simp only [List.getElem?_drop, Nat.add_zero] at e
  simp [fat, e]
theorem DStF.skip {l : List Fc} {p : Fc → Bool} {i j : Nat} {m : List Fc} (h : DStF l p i j m) (hj : j < l.length) (hp : p (fat l j) = true) : DStF l p i (j + 1) m := by
  refine ⟨h.len, ?_, ?_, by have := h.lt; omega, hj⟩
  · have e : l.take (j + 1) = l.take j ++ [fat l j] := by rw [List.take_succ_eq_append_getElem hj]; simp [fat, hj]
    rw [e, List.filter_append, ← h.head]; simp [hp]
  · rw [← List.drop_drop, ← List.drop_drop, h.tail]
theorem DStF.keep {l : List Fc} {p : Fc → Bool} {i j : Nat} {m : List Fc} (h : DStF l p i j m) (hj : j < l.length) (hp : p (fat l j) = false) : DStF l p (i + 1) (j + 1) (m.set i (fat l j)) := by
  have hlt := h.lt
  have hlen := h.len
  refine ⟨by simp [h.len], ?_, ?_, by omega, hj⟩
  · have e : l.take (j + 1) = l.take j ++ [fat l j] := by rw [List.take_succ_eq_append_getElem hj]; simp [fat, hj]
    rw [e, List.filter_append, ← h.head, List.take_succ_eq_append_getElem (by simp; omega)]
    simp [hp, List.take_set_of_le]
  · rw [List.drop_set_of_lt (by omega), ← List.drop_drop, ← List.drop_drop, h.tail]
theorem DStF.done {l : List Fc} {p : Fc → Bool} {i j : Nat} {m : List Fc} (h : DStF l p i j m) (hj : l.length ≤ j) : (l.filter fun f => !p f) = m.take i ∧ (m.take i).length = i := by
  have := h.lt; have := h.le; have := h.len
  refine ⟨by rw [h.head, List.take_of_length_le hj], by rw [List.length_take]; omega⟩
theorem OF.cut {l : List Fc} (i : Nat) : (fcells l).take (i * 6) = fcells (l.take i) := by
  induction l generalizing i with
  | nil => simp [fcells]
  | cons f l ih =>
    cases i with
    | zero => simp [fcells]
    | succ i =>
      have e : (i + 1) * 6 = 6 + i * 6 := by omega
      have h1 : (Fc.cells f).length = 6 := rfl
      have ih' := ih i
      simp only [fcells, List.flatMap_cons, List.take_succ_cons] at ih' ⊢
      rw [e, ← h1, List.take_length_add_append, h1, ih']

set_option maxRecDepth 100000 in
set_option maxHeartbeats 2000000 in
theorem delF_any (A : Option Addr) (n c base : Nat) (l : List Fc) (x : Int) (bc : Nat) (w : World) (hn : l.length = n) (hl : n ≤ 100000) (h : OF w base (.slice A n c) l) (hbase : base ≤ w.heap.size) (hc : w.cell? ⟨bc, 0, none⟩ = some (.int .i64 x)) (hb : bc < base) :
    Calls Tryz.prog 51 #[.slice A n c, .func (.func 52) #[] #[.pointer (some ⟨bc, 0, none⟩)]] w (DelF l (pDay x) base w) := by
  have hsf : SF w w.heap.size A n l := by
    obtain ⟨A9, c9, e9, _, h9⟩ := OF.form h
    injection e9 with e1 e2 e3
    subst e1; rw [e2]; exact h9
  have hcn : n ≤ c := by
    obtain ⟨A9, c9, e9, h8, h9⟩ := OF.form h
    injection e9 with e1 e2 e3
    omega
  have hA : 0 < n → ∃ g, A = some ⟨g, 0, none⟩ ∧ base ≤ g := fun h0 => by
    obtain ⟨A9, c9, e9, _, hh⟩ := own_form h
    injection e9 with e1 e2 e3
    subst e1
    rcases hh with ⟨_, h9, _⟩ | ⟨g, h8, h7, _⟩
    · omega
    · exact ⟨g, h8, h7⟩
  subst hn
  have HO := Lib.hid h; clear h
  have HSF := Lib.hid hsf; clear hsf
  have HC := Lib.hid hc; clear hc
  have HA := Lib.hid hA; clear hA
  go_enter Tryz.func51, Tryz.ntmps51
  go_wp2_with fail
  refine (idxF_any A l.length c l x bc _ hl HSF.out HC.out (by omega)).mono ?_
  rintro e w1 ⟨r, rfl, hx1, ⟨rfl, hno⟩ | ⟨k, rfl, hk, hpk, hno⟩⟩
  · have HN := Lib.hid hno; clear hno
    go_wp2
    go_ret
    exact ⟨l, A, c, (filter_allF HN.out).symm, rfl, HO.out.ext hx1, Below.mono hx1 hbase⟩
  · obtain ⟨g, rfl, hgb⟩ := HA.out (by omega)
    have hds := DStF.start hk hpk hno
    have HDS := Lib.hid hds
    have hk1 : ((k : Int) == -1) = false := by rw [beq_eq_false_iff_ne]; omega
    have hcb : w1.cell? ⟨bc, 0, none⟩ = some (.int .i64 x) := (hx1.cells.1 bc 0 (by omega)).trans HC.out
    have HCB := Lib.hid hcb
    have HO1 := Lib.hid (HO.out.ext hx1)
    clear hds hno hpk HSF HA HO HC hcb
    go_wp2
    clear hk1
    go_loopw [5, 6] (fun ii jj wr => ∃ (i j : Nat) (m : List Fc), ii = .int .i64 i ∧ jj = .int .i64 j ∧ DStF l (pDay x) i j m ∧ OF wr base (.slice (some ⟨g, 0, none⟩) l.length c) m ∧ w1.grownBy wr (some g)) (fun _ jj _ => l.length - (intOf jj).toNat)
    case atStart => exact ⟨k, k + 1, l, rfl, by go_num, HDS.out, HO1.out, World.grownBy.refl _ _⟩
    case round =>
      clear HDS HO1
      obtain ⟨i, j, m, rfl, rfl, hd, hof, hg⟩ := hrel
      have hij := hd.lt
      have hjn := hd.le
      have hml := hd.len
      have hcb : wr.cell? ⟨bc, 0, none⟩ = some (.int .i64 x) := (World.cell?_of_block (hg.block bc (by have := hx1.lt; omega) (fun e => by injection e with e; omega))).trans HCB.out
      have hsz : bc < wr.heap.size := by have := hg.size; have := hx1.lt; omega
      by_cases hlt : j < l.length
      · have hlt' : (j : Int) < l.length := by omega
        have hil : (i : Int) < l.length := by omega
        have hel := hd.elem
        obtain ⟨c0, c1, c2, c3, c4, c5⟩ := hof.at_ hml (k := j) hlt
        rw [hel] at c0  c1  c2  c3  c4  c5
        have HD := Lib.hid hd
        have HML := Lib.hid hml
        have HOF := Lib.hid hof
        have HG := Lib.hid hg
        have HCB2 := Lib.hid hcb
        clear hd hml hof hg hcb hel
        cases hp : pDay x (fat l j)
        · have HP := Lib.hid hp
          go_wp2_with fail
          refine (clo43_any x bc (fat l j) _ (by rw [World.cell?_alloc_lt _ _ _ (by exact hsz)]; exact HCB2.out) (lt_alloc hsz _)).mono ?_
          rintro e w2 ⟨rfl, hx2⟩
          rw [hp]
          have hx3 : Ext wr w2 := ((Ext.refl wr).alloc _).trans hx2
          have hbk := (Bk.new wr 24 _).ext hx2
          have HBK := Lib.hid hbk
          obtain ⟨q1, p1⟩ := hbk.cells
          have hof2 := HOF.out.ext hx3
          obtain ⟨d0, d1, d2, d3, d4, d5⟩ := hof2.at_ HML.out (k := i) (by omega)
          have hfz := hof2.frozen HML.out
          obtain ⟨o3, g3⟩ := hof2.put HML.out (k := i) (by omega) (fat l j)
          have O3 := Lib.hid o3
          have G3 := Lib.hid ((HG.out.andThen (grownBy_ext hx3 (some g)) (fun _ e => .inr e)).andThen g3 (fun _ e => .inr e))
          have D3 := Lib.hid (HD.out.keep hlt hp)
          clear hbk hof2 o3 g3 hx2 hx3 hp c0  c1  c2  c3  c4  c5
          go_wp2
          exact ⟨⟨i + 1, j + 1, _, by go_num, by go_num, D3.out, O3.out, G3.out⟩, by simp [intOf]; omega⟩
        · have HP := Lib.hid hp
          go_wp2_with fail
          refine (clo43_any x bc (fat l j) _ (by rw [World.cell?_alloc_lt _ _ _ (by exact hsz)]; exact HCB2.out) (lt_alloc hsz _)).mono ?_
          rintro e w2 ⟨rfl, hx2⟩
          rw [hp]
          have hx3 : Ext wr w2 := ((Ext.refl wr).alloc _).trans hx2
          have G3 := Lib.hid (HG.out.andThen (grownBy_ext hx3 (some g)) (fun _ e => .inr e))
          have O3 := Lib.hid (HOF.out.ext hx3)
          have D3 := Lib.hid (HD.out.skip hlt hp)
          clear hx2 hx3 hp c0  c1  c2  c3  c4  c5
          go_wp2
          exact ⟨⟨i, j + 1, m, rfl, by go_num, D3.out, O3.out, G3.out⟩, by simp [intOf]; omega⟩
      · obtain ⟨hf, hfl⟩ := hd.done (by omega)
        have hof' : wr.ownsRow base 24 6 (.slice (some ⟨g, 0, none⟩) l.length c) l.length (fcells m) := by have h9 := hof; unfold OF at h9; rwa [hml] at h9
        obtain ⟨w4, hrun, how, hg4⟩ := run_clear_own (P := Tryz.prog) (ty := 0) (size := 6) Tryz.underlying57 (zero30 wr) rfl (by intro u hu; simp [Value.cells] at hu; rcases hu with rfl | rfl | rfl | rfl | rfl | rfl <;> rfl) hof' (i := i) (by omega) (c - i) (some ⟨g, i * 6, none⟩) (fun _ => rfl)
        rw [OF.cut] at how
        have hci : ¬ c = i := by omega
        have hil : (i : Int) ≤ l.length := by omega
        have hil2 : (i : Int) ≤ c := by omega
        have hil3 : i ≤ c := by omega
        have hbw : Below base w w4 := Below.trans (Below.mono hx1 hbase) (((Below.refl base w1).grown hg (by have := hx1.lt; omega) (fun k e => by injection e with e; omega)).trans ((Below.refl base wr).grown hg4 (by have := hg.size; have := hx1.lt; omega) (fun k e => by injection e with e; omega)))
        have HOW := Lib.hid how
        have HF := Lib.hid hf
        have HFL := Lib.hid hfl
        have HBW := Lib.hid hbw
        clear how hf hfl hbw hof hof' hg hg4 hcb hd hml
        go_wp2_with (refine wpList_clear_run (x := .tmp 38) hrun rfl rfl rfl rfl ?_)
        go_ret
        refine ⟨m.take i, some ⟨g, 0, none⟩, c, HF.out.symm, by rw [HFL.out]; rfl, ?_, HBW.out⟩
        unfold OF
        rw [HFL.out]
        exact HOW.out

def IdxV (l : List Vr) (p : Vr → Bool) (w : World) (e : Ending) (w' : World) : Prop :=
  ∃ r : Int, e = .returned (.int .i64 r) ∧ Ext w w' ∧ (r = -1 ∧ (∀ j, j < l.length → p (vat l j) = false) ∨ ∃ k : Nat, r = k ∧ k < l.length ∧ p (vat l k) = true ∧ ∀ j, j < k → p (vat l j) = false)
set_option maxRecDepth 100000 in
set_option maxHeartbeats 1000000 in
theorem idxV_any (A : Option Addr) (n c : Nat) (l : List Vr) (x : Int) (bc : Nat) (w : World) (hl : n ≤ 100000) (h : SV w w.heap.size A n l) (hc : w.cell? ⟨bc, 0, none⟩ = some (.int .i64 x)) (hb : bc < w.heap.size) :
    Calls Tryz.prog 68 #[.slice A n c, .func (.func 47) #[] #[.pointer (some ⟨bc, 0, none⟩)]] w (IdxV l (pEn x) w) := by
  obtain rfl : l.length = n := h.1
  have HS := Lib.hid h; clear h
  have HC := Lib.hid hc; clear hc
  go_enter Tryz.func68, Tryz.ntmps68
  go_wp2
  go_loopw [8] (fun i wr => ∃ k : Nat, k ≤ l.length ∧ i = .int .i64 k ∧ (∀ j, j < k → pEn x (vat l j) = false) ∧ Ext w wr) (fun i _ => l.length - (intOf i).toNat)
  case atStart => exact ⟨0, Nat.zero_le _, rfl, fun j h => absurd h (by omega), Ext.refl _⟩
  case round =>
    obtain ⟨k, hk, rfl, hno, hx⟩ := hrel
    have HN := Lib.hid hno; clear hno
    by_cases hlt : k < l.length
    · have hlt' : (k : Int) < l.length := by omega
      obtain ⟨b, off, rfl, hb2, c0, c1, c2, c3, c4, c5, c6, c7⟩ := SV.at_ (SV.lift HS.out (Nat.le_refl _) hx) (k := k) hlt
      have hcc : wr.cell? ⟨bc, 0, none⟩ = some (.int .i64 x) := (hx.cells.1 bc 0 hb).trans HC.out
      have HCC := Lib.hid hcc; clear hcc
      have hbw : bc < wr.heap.size := Nat.lt_of_lt_of_le hb hx.lt
      cases hp : pEn x (vat l k)
      · have HP := Lib.hid hp
        go_wp2_with (first | (go_at_call 47; refine (clo45_any x bc (vat l k) _ HCC.out hbw).mono ?_; rintro e w1 ⟨rfl, hx1⟩))
        exact ⟨⟨k + 1, by omega, by go_num, fun j h => (by
          by_cases e : j = k
          · subst e; exact HP.out
          · exact HN.out j (by omega)), hx.trans hx1⟩, by simp [intOf]; omega⟩
      · have HP := Lib.hid hp
        go_wp2_with (first | (go_at_call 47; refine (clo45_any x bc (vat l k) _ HCC.out hbw).mono ?_; rintro e w1 ⟨rfl, hx1⟩))
        go_ret
        exact ⟨k, rfl, hx.trans hx1, .inr ⟨k, rfl, hlt, HP.out, HN.out⟩⟩
    · obtain rfl : k = l.length := by omega
      go_wp2
      go_ret
      exact ⟨-1, rfl, hx, .inl ⟨rfl, HN.out⟩⟩

def DelV (l : List Vr) (p : Vr → Bool) (base : Nat) (w : World) (e : Ending) (w' : World) : Prop :=
  ∃ (m : List Vr) (A' : Option Addr) (c' : Nat), m = (l.filter fun f => !p f) ∧ e = .returned (.slice A' m.length c') ∧ OV w' base (.slice A' m.length c') m ∧ Below base w w'

theorem filter_allV {l : List Vr} {p : Vr → Bool} (h : ∀ j, j < l.length → p (vat l j) = false) : (l.filter fun f => !p f) = l := by
  rw [List.filter_eq_self]
  intro f hf
  obtain ⟨i, hi, rfl⟩ := List.mem_iff_getElem.1 hf
  have := h i hi
  have e : vat l i = l[i] := by simp [vat, hi]
  rw [e] at this; simp [this]
/-- What the loop of DeleteFunc keeps. -/
structure DStV (l : List Vr) (p : Vr → Bool) (i j : Nat) (m : List Vr) : Prop where
  len : m.length = l.length
  head : m.take i = (l.take j).filter fun f => !p f
  tail : m.drop j = l.drop j
  lt : i < j
  le : j ≤ l.length
theorem DStV.start {l : List Vr} {p : Vr → Bool} {k : Nat} (hk : k < l.length) (hp : p (vat l k) = true) (hno : ∀ j, j < k → p (vat l j) = false) : DStV l p k (k + 1) l := by
  refine ⟨rfl, ?_, rfl, by omega, hk⟩
  have e : l.take (k + 1) = l.take k ++ [vat l k] := by rw [List.take_succ_eq_append_getElem hk]; simp [vat, hk]
  rw [e, List.filter_append]
  have h1 : ((l.take k).filter fun f => !p f) = l.take k := filter_allV fun j hj => by
    have hjk : j < k := by simp at hj; omega
    have e2 : vat (l.take k) j = vat l j := by simp [vat, hjk]
    rw [e2]; exact hno j hjk
  rw [h1]; simp [hp]
theorem DStV.elem {l : List Vr} {p : Vr → Bool} {i j : Nat} {m : List Vr} (h : DStV l p i j m) : vat m j = vat l j := by
  have e : (m.drop j)[0]? = (l.drop j)[0]? := by rw [h.tail]
  simp only [List.getElem?_drop, Nat.add_zero] at e
  simp [vat, e]
theorem DStV.skip {l : List Vr} {p : Vr → Bool} {i j : Nat} {m : List Vr} (h : DStV l p i j m) (hj : j < l.length) (hp : p (vat l j) = true) : DStV l p i (j + 1) m := by
  refine ⟨h.len, ?_, ?_, by have := h.lt; omega, hj⟩
  · have e : l.take (j + 1) = l.take j ++ [vat l j] := by rw [List.take_succ_eq_append_getElem hj]; simp [vat, hj]
    rw [e, List.filter_append, ← h.head]; simp [hp]
  · rw [← List.drop_drop, ← List.drop_drop, h.tail]
theorem DStV.keep {l : List Vr} {p : Vr → Bool} {i j : Nat} {m : List Vr} (h : DStV l p i j m) (hj : j < l.length) (hp : p (vat l j) = false) : DStV l p (i + 1) (j + 1) (m.set i (vat l j)) := by
  have hlt := h.lt
  have hlen := h.len
  refine ⟨by simp [h.len], ?_, ?_, by omega, hj⟩
  · have e : l.take (j + 1) = l.take j ++ [vat l j] := by rw [List.take_succ_eq_append_getElem hj]; simp [vat, hj]
    rw [e, List.filter_append, ← h.head, List.take_succ_eq_append_getElem (by simp; omega)]
    simp [hp, List.take_set_of_le]
  · rw [List.drop_set_of_lt (by omega), ← List.drop_drop, ← List.drop_drop, h.tail]
theorem DStV.done {l : List Vr} {p : Vr → Bool} {i j : Nat} {m : List Vr} (h : DStV l p i j m) (hj : l.length ≤ j) : (l.filter fun f => !p f) = m.take i ∧ (m.take i).length = i := by
  have := h.lt; have := h.le; have := h.len
  refine ⟨by rw [h.head, List.take_of_length_le hj], by rw [List.length_take]; omega⟩
theorem OV.cut {l : List Vr} (i : Nat) : (vcells l).take (i * 8) = vcells (l.take i) := by
  induction l generalizing i with
  | nil => simp [vcells]
  | cons f l ih =>
    cases i with
    | zero => simp [vcells]
    | succ i =>
      have e : (i + 1) * 8 = 8 + i * 8 := by omega
      have h1 : (Vr.cells f).length = 8 := rfl
      have ih' := ih i
      simp only [vcells, List.flatMap_cons, List.take_succ_cons] at ih' ⊢
      rw [e, ← h1, List.take_length_add_append, h1, ih']

set_option maxRecDepth 100000 in
set_option maxHeartbeats 2000000 in
theorem delV_any (A : Option Addr) (n c base : Nat) (l : List Vr) (x : Int) (bc : Nat) (w : World) (hn : l.length = n) (hl : n ≤ 100000) (h : OV w base (.slice A n c) l) (hbase : base ≤ w.heap.size) (hc : w.cell? ⟨bc, 0, none⟩ = some (.int .i64 x)) (hb : bc < base) :
    Calls Tryz.prog 46 #[.slice A n c, .func (.func 47) #[] #[.pointer (some ⟨bc, 0, none⟩)]] w (DelV l (pEn x) base w) := by
  have hsf : SV w w.heap.size A n l := by
    obtain ⟨A9, c9, e9, _, h9⟩ := OV.form h
    injection e9 with e1 e2 e3
    subst e1; rw [e2]; exact h9
  have hcn : n ≤ c := by
    obtain ⟨A9, c9, e9, h8, h9⟩ := OV.form h
    injection e9 with e1 e2 e3
    omega
  have hA : 0 < n → ∃ g, A = some ⟨g, 0, none⟩ ∧ base ≤ g := fun h0 => by
    obtain ⟨A9, c9, e9, _, hh⟩ := own_form h
    injection e9 with e1 e2 e3
    subst e1
    rcases hh with ⟨_, h9, _⟩ | ⟨g, h8, h7, _⟩
    · omega
    · exact ⟨g, h8, h7⟩
  subst hn
  have HO := Lib.hid h; clear h
  have HSF := Lib.hid hsf; clear hsf
  have HC := Lib.hid hc; clear hc
  have HA := Lib.hid hA; clear hA
  go_enter Tryz.func46, Tryz.ntmps46
  go_wp2_with fail
  refine (idxV_any A l.length c l x bc _ hl HSF.out HC.out (by omega)).mono ?_
  rintro e w1 ⟨r, rfl, hx1, ⟨rfl, hno⟩ | ⟨k, rfl, hk, hpk, hno⟩⟩
  · have HN := Lib.hid hno; clear hno
    go_wp2
    go_ret
    exact ⟨l, A, c, (filter_allV HN.out).symm, rfl, HO.out.ext hx1, Below.mono hx1 hbase⟩
  · obtain ⟨g, rfl, hgb⟩ := HA.out (by omega)
    have hds := DStV.start hk hpk hno
    have HDS := Lib.hid hds
    have hk1 : ((k : Int) == -1) = false := by rw [beq_eq_false_iff_ne]; omega
    have hcb : w1.cell? ⟨bc, 0, none⟩ = some (.int .i64 x) := (hx1.cells.1 bc 0 (by omega)).trans HC.out
    have HCB := Lib.hid hcb
    have HO1 := Lib.hid (HO.out.ext hx1)
    clear hds hno hpk HSF HA HO HC hcb
    go_wp2
    clear hk1
    go_loopw [5, 6] (fun ii jj wr => ∃ (i j : Nat) (m : List Vr), ii = .int .i64 i ∧ jj = .int .i64 j ∧ DStV l (pEn x) i j m ∧ OV wr base (.slice (some ⟨g, 0, none⟩) l.length c) m ∧ w1.grownBy wr (some g)) (fun _ jj _ => l.length - (intOf jj).toNat)
    case atStart => exact ⟨k, k + 1, l, rfl, by go_num, HDS.out, HO1.out, World.grownBy.refl _ _⟩
    case round =>
      clear HDS HO1
      obtain ⟨i, j, m, rfl, rfl, hd, hof, hg⟩ := hrel
      have hij := hd.lt
      have hjn := hd.le
      have hml := hd.len
      have hcb : wr.cell? ⟨bc, 0, none⟩ = some (.int .i64 x) := (World.cell?_of_block (hg.block bc (by have := hx1.lt; omega) (fun e => by injection e with e; omega))).trans HCB.out
      have hsz : bc < wr.heap.size := by have := hg.size; have := hx1.lt; omega
      by_cases hlt : j < l.length
      · have hlt' : (j : Int) < l.length := by omega
        have hil : (i : Int) < l.length := by omega
        have hel := hd.elem
        obtain ⟨c0, c1, c2, c3, c4, c5, c6, c7⟩ := hof.at_ hml (k := j) hlt
        rw [hel] at c0  c1  c2  c3  c4  c5  c6  c7
        have HD := Lib.hid hd
        have HML := Lib.hid hml
        have HOF := Lib.hid hof
        have HG := Lib.hid hg
        have HCB2 := Lib.hid hcb
        clear hd hml hof hg hcb hel
        cases hp : pEn x (vat l j)
        · have HP := Lib.hid hp
          go_wp2_with fail
          refine (clo45_any x bc (vat l j) _ (by rw [World.cell?_alloc_lt _ _ _ (by exact hsz)]; exact HCB2.out) (lt_alloc hsz _)).mono ?_
          rintro e w2 ⟨rfl, hx2⟩
          rw [hp]
          have hx3 : Ext wr w2 := ((Ext.refl wr).alloc _).trans hx2
          have hbk := (Bk.new wr 26 _).ext hx2
          have HBK := Lib.hid hbk
          obtain ⟨q1, p1⟩ := hbk.cells
          have hof2 := HOF.out.ext hx3
          obtain ⟨d0, d1, d2, d3, d4, d5, d6, d7⟩ := hof2.at_ HML.out (k := i) (by omega)
          have hfz := hof2.frozen HML.out
          obtain ⟨o3, g3⟩ := hof2.put HML.out (k := i) (by omega) (vat l j)
          have O3 := Lib.hid o3
          have G3 := Lib.hid ((HG.out.andThen (grownBy_ext hx3 (some g)) (fun _ e => .inr e)).andThen g3 (fun _ e => .inr e))
          have D3 := Lib.hid (HD.out.keep hlt hp)
          clear hbk hof2 o3 g3 hx2 hx3 hp c0  c1  c2  c3  c4  c5  c6  c7
          go_wp2
          exact ⟨⟨i + 1, j + 1, _, by go_num, by go_num, D3.out, O3.out, G3.out⟩, by simp [intOf]; omega⟩
        · have HP := Lib.hid hp
          go_wp2_with fail
          refine (clo45_any x bc (vat l j) _ (by rw [World.cell?_alloc_lt _ _ _ (by exact hsz)]; exact HCB2.out) (lt_alloc hsz _)).mono ?_
          rintro e w2 ⟨rfl, hx2⟩
          rw [hp]
          have hx3 : Ext wr w2 := ((Ext.refl wr).alloc _).trans hx2
          have G3 := Lib.hid (HG.out.andThen (grownBy_ext hx3 (some g)) (fun _ e => .inr e))
          have O3 := Lib.hid (HOF.out.ext hx3)
          have D3 := Lib.hid (HD.out.skip hlt hp)
          clear hx2 hx3 hp c0  c1  c2  c3  c4  c5  c6  c7
          go_wp2
          exact ⟨⟨i, j + 1, m, rfl, by go_num, D3.out, O3.out, G3.out⟩, by simp [intOf]; omega⟩
      · obtain ⟨hf, hfl⟩ := hd.done (by omega)
        have hof' : wr.ownsRow base 26 8 (.slice (some ⟨g, 0, none⟩) l.length c) l.length (vcells m) := by have h9 := hof; unfold OV at h9; rwa [hml] at h9
        obtain ⟨w4, hrun, how, hg4⟩ := run_clear_own (P := Tryz.prog) (ty := 0) (size := 8) Tryz.underlying27 (zero32 wr) rfl (by intro u hu; simp [Value.cells] at hu; rcases hu with rfl | rfl | rfl | rfl | rfl | rfl | rfl | rfl <;> rfl) hof' (i := i) (by omega) (c - i) (some ⟨g, i * 8, none⟩) (fun _ => rfl)
        rw [OV.cut] at how
        have hci : ¬ c = i := by omega
        have hil : (i : Int) ≤ l.length := by omega
        have hil2 : (i : Int) ≤ c := by omega
        have hil3 : i ≤ c := by omega
        have hbw : Below base w w4 := Below.trans (Below.mono hx1 hbase) (((Below.refl base w1).grown hg (by have := hx1.lt; omega) (fun k e => by injection e with e; omega)).trans ((Below.refl base wr).grown hg4 (by have := hg.size; have := hx1.lt; omega) (fun k e => by injection e with e; omega)))
        have HOW := Lib.hid how
        have HF := Lib.hid hf
        have HFL := Lib.hid hfl
        have HBW := Lib.hid hbw
        clear how hf hfl hbw hof hof' hg hg4 hcb hd hml
        go_wp2_with (refine wpList_clear_run (x := .tmp 38) hrun rfl rfl rfl rfl ?_)
        go_ret
        refine ⟨m.take i, some ⟨g, 0, none⟩, c, HF.out.symm, by rw [HFL.out]; rfl, ?_, HBW.out⟩
        unfold OV
        rw [HFL.out]
        exact HOW.out
end Go.Proofs.YtngjghblpbdciaaGreatDoor.Fa

/- The contracts of facts.Known and facts.History. -/
namespace Go.Proofs.YtngjghblpbdciaaGreatDoor.Fa
open Go Go.RowKit

def KnownPost (l : List Vr) (day op : Int) (w : World) (e : Ending) (w' : World) : Prop :=
  ∃ (m0 m : List Fc) (A : Option Addr) (c : Nat), e = .returned (.slice A m.length c) ∧ IsAt l op m0 ∧ m = (m0.filter fun f => !pDay day f) ∧ OF w' w.heap.size (.slice A m.length c) m ∧ Ext w w'
theorem known_any (A : Option Addr) (n c : Nat) (l : List Vr) (day op : Int) (w : World) (hl : n ≤ 1000) (h : SV w w.heap.size A n l) (hen : ∀ k, k < n → 0 ≤ (vat l k).fc.en ∧ (vat l k).fc.en ≤ 5) :
    Calls Tryz.prog 31 #[.slice A n c, .int .i64 day, .int .i64 op] w (KnownPost l day op w) := by
  have HS := Lib.hid h; clear h
  have HEN := Lib.hid hen; clear hen
  go_enter Tryz.func31, Tryz.ntmps31
  go_wp2_with fail
  refine (at_any A n c l op _ hl (SV.lift HS.out (Nat.le_refl _) ((Ext.refl w).alloc _)) HEN.out).mono ?_
  rintro e w1 ⟨m0, A1, c1, rfl, hm, h6, hof, hx⟩
  have HM := Lib.hid hm; clear hm
  have HOF := Lib.hid hof; clear hof
  have hcell : w1.cell? ⟨w.heap.size, 0, none⟩ = some (.int .i64 day) := (hx.cells.1 w.heap.size 0 (by simp)).trans (by simp)
  have HC := Lib.hid hcell; clear hcell
  have hx2 : Ext w w1 := ((Ext.refl w).alloc _).trans hx
  go_wp2_with fail
  refine (delF_any A1 m0.length c1 _ m0 day w.heap.size _ rfl (by omega) HOF.out hx.lt HC.out (by simp)).mono ?_
  rintro e w2 ⟨m, A2, c2, hm2, rfl, hof2, hb2⟩
  have HM2 := Lib.hid hm2; clear hm2
  have hx3 : Ext w w2 := Below.trans hx2 (Below.mono hb2 (by simp))
  have HOF2 := Lib.hid hof2; clear hof2 hx hb2
  go_wp2
  go_ret
  exact ⟨m0, m, A2, c2, rfl, HM.out, HM2.out, HOF2.out.base (by simp), hx3⟩

def HistPost (l : List Vr) (en : Int) (w : World) (e : Ending) (w' : World) : Prop :=
  ∃ (m : List Vr) (A : Option Addr) (c : Nat), e = .returned (.slice A m.length c) ∧ m = (l.filter fun v => !pEn en v) ∧ OV w' w.heap.size (.slice A m.length c) m ∧ Ext w w'
theorem hist_any (A : Option Addr) (n c : Nat) (l : List Vr) (en : Int) (w : World) (hl : n ≤ 1000) (h : SV w w.heap.size A n l) :
    Calls Tryz.prog 28 #[.slice A n c, .int .i64 en] w (HistPost l en w) := by
  have HS := Lib.hid h; clear h
  have HN := Lib.hid HS.out.1
  go_enter Tryz.func28, Tryz.ntmps28
  go_wp2_with fail
  refine (clone_any A n c l _ hl (SV.lift HS.out (Nat.le_refl _) ((Ext.refl w).alloc _))).mono ?_
  rintro e w1 ⟨A1, c1, rfl, hof, hx⟩
  have HOF := Lib.hid hof; clear hof
  have hcell : w1.cell? ⟨w.heap.size, 0, none⟩ = some (.int .i64 en) := (hx.cells.1 w.heap.size 0 (by simp)).trans (by simp)
  have HC := Lib.hid hcell; clear hcell
  have hx2 : Ext w w1 := ((Ext.refl w).alloc _).trans hx
  go_wp2_with fail
  refine (delV_any A1 l.length c1 _ l en w.heap.size _ rfl (by rw [HN.out]; omega) HOF.out hx.lt HC.out (by simp)).mono ?_
  rintro e w2 ⟨m, A2, c2, hm2, rfl, hof2, hb2⟩
  have HM2 := Lib.hid hm2; clear hm2
  have hx3 : Ext w w2 := Below.trans hx2 (Below.mono hb2 (by simp))
  have HOF2 := Lib.hid hof2; clear hof2 hx hb2
  go_wp2
  go_ret
  exact ⟨m, A2, c2, rfl, HM2.out, HOF2.out.base (by simp), hx3⟩
end Go.Proofs.YtngjghblpbdciaaGreatDoor.Fa

/- The contracts of rollbookref18.SameFacts and SameVersions. -/
namespace Go.Proofs.YtngjghblpbdciaaGreatDoor.Fa
open Go Go.RowKit

theorem stood30 : Tryz.prog.stoodInHeld 24 = false := by kernel_rfl
theorem str30 : Tryz.prog.underlying 24 = some (.struct (Tryz.prog.fieldsOf 24)) := by kernel_rfl
theorem eqF (f g : Fc) (w : World) : (Op.equalIn 10000 24 (.agg #[.int .i64 f.en, .string f.kd, .int .i64 f.day, .int .i64 f.byy, .int .i64 f.too, .int .i64 f.am]) (.agg #[.int .i64 g.en, .string g.kd, .int .i64 g.day, .int .i64 g.byy, .int .i64 g.too, .int .i64 g.am])).run Tryz.prog w = .ok (decide (f = g)) w := by
  rw [run_equalIn_struct w 9999 24 _ _ str30 stood30]
  have hk : f.kd.toList = g.kd.toList ↔ f.kd = g.kd := by
    rw [ByteArray.toList_eq, ByteArray.toList_eq]
    exact ⟨fun h => WideShapes.bytes_inj h, fun h => by rw [h]⟩
  have hd : decide (f = g) = decide (f.en = g.en ∧ f.kd = g.kd ∧ f.day = g.day ∧ f.byy = g.byy ∧ f.too = g.too ∧ f.am = g.am) := by
    rw [decide_eq_decide]; cases f; cases g; simp
  rw [hd]
  simp [go_sem, hk]
  by_cases h1 : f.en = g.en <;> by_cases h2 : f.kd = g.kd <;> by_cases h3 : f.day = g.day <;> by_cases h4 : f.byy = g.byy <;> by_cases h5 : f.too = g.too <;> by_cases h6 : f.am = g.am <;> simp [h1, h2, h3, h4, h5, h6]
theorem ext_fat {l l' : List Fc} (hn : l.length = l'.length) (h : ∀ j, j < l.length → fat l j = fat l' j) : l = l' := by
  apply List.ext_getElem hn
  intro i h1 h2
  have := h i h1
  simpa [fat, h1, h2] using this
set_option maxRecDepth 100000 in
set_option maxHeartbeats 1000000 in
theorem sameF_any (A A' : Option Addr) (n n' c c' : Nat) (l l' : List Fc) (w : World) (hl : n ≤ 1000) (hl' : n' ≤ 1000) (h : SF w w.heap.size A n l) (h' : SF w w.heap.size A' n' l') :
    Calls Tryz.prog 29 #[.slice A n c, .slice A' n' c'] w fun e w' => e = .returned (.bool (decide (l = l'))) ∧ Ext w w' := by
  obtain rfl : l.length = n := h.1
  obtain rfl : l'.length = n' := h'.1
  have HS := Lib.hid h; clear h
  have HS' := Lib.hid h'; clear h'
  by_cases hlen : l.length = l'.length
  · have hne : ((l.length : Int) == l'.length) = true := by simp [hlen]
    have hne2 : ((l.length : Int) != l'.length) = false := by simp [hlen]
    have HL := Lib.hid hlen; clear hlen
    go_enter Tryz.func29, Tryz.ntmps29
    go_wp2
    clear hne hne2
    go_loopw [5] (fun i wr => ∃ k : Nat, k ≤ l.length ∧ i = .int .i64 k ∧ (∀ j, j < k → fat l j = fat l' j) ∧ Ext w wr) (fun i _ => l.length - (intOf i).toNat)
    case atStart => exact ⟨0, Nat.zero_le _, rfl, fun j h => absurd h (by omega), Ext.refl _⟩
    case round =>
      obtain ⟨k, hk, rfl, hno, hx⟩ := hrel
      have HN := Lib.hid hno; clear hno
      by_cases hlt : k < l.length
      · have hlt' : (k : Int) < l.length := by omega
        have hlt2 : k < l'.length := by rw [← HL.out]; exact hlt
        have hlt3 : (k : Int) < l'.length := by omega
        obtain ⟨b, off, rfl, hb, c0, c1, c2, c3, c4, c5⟩ := SF.at_ (SF.lift HS.out (Nat.le_refl _) hx) (k := k) hlt
        obtain ⟨b', off', rfl, hb', d0, d1, d2, d3, d4, d5⟩ := SF.at_ (SF.lift HS'.out (Nat.le_refl _) hx) (k := k) hlt2
        have hcmp := fun W => eqF (fat l k) (fat l' k) W
        cases hd : decide (fat l k = fat l' k)
        · rw [hd] at hcmp
          have HD := Lib.hid (of_decide_eq_false hd)
          clear hd
          go_wp2
          go_quiet (fail)
          go_wp2
          go_ret
          exact ⟨ret_bool (by rw [eq_comm, decide_eq_false_iff_not]; exact fun e => HD.out (by rw [e])), hx.drewN _⟩
        · rw [hd] at hcmp
          have HD := Lib.hid (of_decide_eq_true hd)
          clear hd
          go_wp2
          go_quiet (fail)
          go_wp2
          exact ⟨⟨k + 1, by omega, by go_num, fun j h => (by
            by_cases e : j = k
            · subst e; exact HD.out
            · exact HN.out j (by omega)), hx.drewN _⟩, by simp [intOf]; omega⟩
      · obtain rfl : k = l.length := by omega
        go_wp2
        go_ret
        exact ⟨ret_bool (by rw [eq_comm, decide_eq_true_eq]; exact ext_fat HL.out HN.out), hx⟩
  · have hne : ((l.length : Int) == l'.length) = false := by rw [beq_eq_false_iff_ne]; omega
    have hne2 : ((l.length : Int) != l'.length) = true := by rw [bne_iff_ne]; omega
    have HL := Lib.hid hlen; clear hlen
    go_enter Tryz.func29, Tryz.ntmps29
    go_wp2
    go_ret
    exact ⟨ret_bool (by rw [eq_comm, decide_eq_false_iff_not]; exact fun e => HL.out (by rw [e])), Ext.refl _⟩

end Go.Proofs.YtngjghblpbdciaaGreatDoor.Fa

/- Plain lists, continued: what changed from one sorted list of facts to another one. -/
namespace Go.Proofs.YtngjghblpbdciaaGreatDoor.Fa

/-- The facts of a list that are not in another one. -/
def wout (a b : List Fc) : List Fc := a.filter fun f => decide (f ∉ b)

/-- What the loop of Changes keeps: a1, b1 are done, a2, b2 are to come. -/
structure MSt (a b a2 b2 rem add : List Fc) : Prop where
  parts : ∃ a1 b1, a = a1 ++ a2 ∧ b = b1 ++ b2 ∧ rem = wout a1 b ∧ add = wout b1 a ∧ (∀ x ∈ b1, ∀ y ∈ a2, x.en < y.en) ∧ (∀ x ∈ a1, ∀ y ∈ b2, x.en < y.en)
  sa : a.Pairwise fun x y => x.en < y.en
  sb : b.Pairwise fun x y => x.en < y.en
theorem MSt.start {a b : List Fc} (ha : a.Pairwise fun x y => x.en < y.en) (hb : b.Pairwise fun x y => x.en < y.en) : MSt a b a b [] [] :=
  ⟨⟨[], [], rfl, rfl, rfl, rfl, by simp, by simp⟩, ha, hb⟩
theorem MSt.done {a b rem add : List Fc} (h : MSt a b [] [] rem add) : rem = wout a b ∧ add = wout b a := by
  obtain ⟨⟨a1, b1, e1, e2, e3, e4, _, _⟩, _, _⟩ := h
  rw [List.append_nil] at e1 e2
  subst e1; subst e2
  exact ⟨e3, e4⟩
theorem wout_snoc (a b : List Fc) (x : Fc) : wout (a ++ [x]) b = wout a b ++ (if x ∈ b then [] else [x]) := by
  unfold wout
  rw [List.filter_append]
  by_cases h : x ∈ b <;> simp [h]
theorem MSt.left {a b at_ b2 rem add : List Fc} {x : Fc} (h : MSt a b (x :: at_) b2 rem add) (hlt : ∀ y ∈ b2, x.en < y.en) : MSt a b at_ b2 (rem ++ [x]) add := by
  obtain ⟨⟨a1, b1, e1, e2, e3, e4, h5, h6⟩, sa, sb⟩ := h
  have hx : x ∉ b := by
    rw [e2]
    intro hm
    rcases List.mem_append.1 hm with hm | hm
    · have := h5 x hm x (.head _); omega
    · have := hlt x hm; omega
  refine ⟨⟨a1 ++ [x], b1, by rw [e1]; simp, e2, ?_, e4, fun u hu v hv => h5 u hu v (.tail _ hv), fun u hu v hv => ?_⟩, sa, sb⟩
  · rw [wout_snoc, if_neg hx, e3]
  · rcases List.mem_append.1 hu with hu | hu
    · exact h6 u hu v hv
    · simp at hu; subst hu; exact hlt v hv
theorem MSt.right {a b a2 bt rem add : List Fc} {y : Fc} (h : MSt a b a2 (y :: bt) rem add) (hlt : ∀ x ∈ a2, y.en < x.en) : MSt a b a2 bt rem (add ++ [y]) := by
  obtain ⟨⟨a1, b1, e1, e2, e3, e4, h5, h6⟩, sa, sb⟩ := h
  have hy : y ∉ a := by
    rw [e1]
    intro hm
    rcases List.mem_append.1 hm with hm | hm
    · have := h6 y hm y (.head _); omega
    · have := hlt y hm; omega
  refine ⟨⟨a1, b1 ++ [y], e1, by rw [e2]; simp, e3, ?_, fun u hu v hv => ?_, fun u hu v hv => h6 u hu v (.tail _ hv)⟩, sa, sb⟩
  · rw [wout_snoc, if_neg hy, e4]
  · rcases List.mem_append.1 hu with hu | hu
    · exact h5 u hu v hv
    · simp at hu; subst hu; exact hlt v hv
theorem MSt.heads {a b at_ bt rem add : List Fc} {x y : Fc} (h : MSt a b (x :: at_) (y :: bt) rem add) : (∀ u ∈ at_, x.en < u.en) ∧ (∀ v ∈ bt, y.en < v.en) := by
  obtain ⟨⟨a1, b1, e1, e2, e3, e4, h5, h6⟩, sa, sb⟩ := h
  rw [e1, List.pairwise_append, List.pairwise_cons] at sa
  rw [e2, List.pairwise_append, List.pairwise_cons] at sb
  exact ⟨sa.2.1.1, sb.2.1.1⟩
theorem MSt.lt {a b at_ bt rem add : List Fc} {x y : Fc} (h : MSt a b (x :: at_) (y :: bt) rem add) (hlt : x.en < y.en) : MSt a b at_ (y :: bt) (rem ++ [x]) add :=
  h.left fun v hv => by
    rcases List.mem_cons.1 hv with e | e
    · subst e; exact hlt
    · have := h.heads.2 v e; omega
theorem MSt.eq {a b at_ bt rem add : List Fc} {x y : Fc} (h : MSt a b (x :: at_) (y :: bt) rem add) (he : x.en = y.en) : MSt a b at_ bt (rem ++ if x = y then [] else [x]) (add ++ if x = y then [] else [y]) := by
  have hh := h.heads
  obtain ⟨⟨a1, b1, e1, e2, e3, e4, h5, h6⟩, sa, sb⟩ := h
  have hx : x ∈ b ↔ x = y := by
    rw [e2]
    constructor
    · intro hm
      rcases List.mem_append.1 hm with hm | hm
      · have := h5 x hm x (.head _); omega
      · rcases List.mem_cons.1 hm with e | e
        · exact e
        · have := hh.2 x e; omega
    · intro e; rw [e]; simp
  have hy : y ∈ a ↔ x = y := by
    rw [e1]
    constructor
    · intro hm
      rcases List.mem_append.1 hm with hm | hm
      · have := h6 y hm y (.head _); omega
      · rcases List.mem_cons.1 hm with e | e
        · exact e.symm
        · have := hh.1 y e; omega
    · intro e; rw [e]; simp
  refine ⟨⟨a1 ++ [x], b1 ++ [y], by rw [e1]; simp, by rw [e2]; simp, ?_, ?_, fun u hu v hv => ?_, fun u hu v hv => ?_⟩, sa, sb⟩
  · rw [wout_snoc, e3]
    by_cases e : x = y
    · rw [if_pos e, if_pos (hx.2 e)]
    · rw [if_neg e, if_neg (fun hm => e (hx.1 hm))]
  · rw [wout_snoc, e4]
    by_cases e : x = y
    · rw [if_pos e, if_pos (hy.2 e)]
    · rw [if_neg e, if_neg (fun hm => e (hy.1 hm))]
  · rcases List.mem_append.1 hu with hu | hu
    · exact h5 u hu v (.tail _ hv)
    · simp at hu; subst hu; have := hh.1 v hv; omega
  · rcases List.mem_append.1 hu with hu | hu
    · exact h6 u hu v (.tail _ hv)
    · simp at hu; subst hu; have := hh.2 v hv; omega
end Go.Proofs.YtngjghblpbdciaaGreatDoor.Fa

/- The loop of facts.Changes: what it keeps in memory, and each kind of round. -/
namespace Go.Proofs.YtngjghblpbdciaaGreatDoor.Fa
open Go Go.RowKit

theorem SF.tail {w : World} {B : Nat} {A : Option Addr} {n c : Nat} {x : Fc} {l : List Fc} (h : SF w B A n (x :: l)) (hc : n ≤ c) : SF w B (if c = 1 then A else A.map (·.add 6)) (n - 1) l := by
  obtain ⟨rfl, h⟩ := h
  refine ⟨by simp, fun h0 => ?_⟩
  simp at h0 hc
  rw [if_neg (by omega)]
  obtain ⟨b, off, rfl, hb, hh⟩ := h (by simp)
  refine ⟨b, off + 6, by simp [Addr.add_lit], hb, fun i hi j u hu => ?_⟩
  have := hh (i + 1) (by simp at hi; simp; omega) j u (by simpa [fat] using hu)
  rwa [show off + (i + 1) * 6 + j = off + 6 + i * 6 + j by omega] at this

def Dis (u v : Value) : Prop := ∀ k, u.ownBlock = some k → v.ownBlock ≠ some k
/-- What the loop of Changes keeps in memory: a2, b2 to come; the variable d in block X; its two rows, which are the call's own and lie apart. -/
structure ChgSt (a b : List Fc) (X : Nat) (B1 B2 R1 R2 : Option Addr) (d1 d2 r1 r2 : Nat) (a2 b2 rem add : List Fc) (wr : World) : Prop where
  st : MSt a b a2 b2 rem add
  la : a2.length ≤ d1
  lb : b2.length ≤ d2
  sa : SF wr X B1 a2.length a2
  sb : SF wr X B2 b2.length b2
  bk : Bk wr X 59 #[.slice R1 add.length r1, .slice R2 rem.length r2]
  oadd : OF wr (X + 1) (.slice R1 add.length r1) add
  orem : OF wr (X + 1) (.slice R2 rem.length r2) rem
  dis : Dis (.slice R1 add.length r1) (.slice R2 rem.length r2)
  ladd : add.length ≤ b.length
  lrem : rem.length ≤ a.length
theorem OF.far {w : World} {base : Nat} {v : Value} {l : List Fc} (h : OF w base v l) {p : Addr} (hp : p.block < base) (u : Value) : OF (w.setCell p u) base v l := ownsRow_setCell_below h hp u
theorem OF.sf {w : World} {base : Nat} {A : Option Addr} {n c : Nat} {l : List Fc} (h : OF w base (.slice A n c) l) : SF w w.heap.size A n l := by
  obtain ⟨A9, c9, e9, _, h9⟩ := h.form
  injection e9 with e1 e2 e3; subst e1; rw [e2]; exact h9
theorem wout_len (a b : List Fc) : (wout a b).length ≤ a.length := List.length_filter_le _ _
theorem MSt.lens {a b a2 b2 rem add : List Fc} (h : MSt a b a2 b2 rem add) : add.length + b2.length ≤ b.length ∧ rem.length + a2.length ≤ a.length := by
  obtain ⟨⟨a1, b1, e1, e2, e3, e4, _, _⟩, _, _⟩ := h
  have h1 := wout_len a1 b
  have h2 := wout_len b1 a
  rw [e3, e4, e1, e2] at *
  simp only [List.length_append]
  omega

/-- What an append of one fact to one of the two rows leaves: v' is the new row with l; the other row o and the variable's block are as they were. -/
def AppR (X : Nat) (l lo : List Fc) (o : Value) (cs : Array Value) (wr : World) (v' : Value) (w' : World) : Prop :=
  ∃ (A3 : Option Addr) (c3 : Nat), v' = .slice A3 l.length c3 ∧ OF w' (X + 1) (.slice A3 l.length c3) l ∧ OF w' (X + 1) o lo ∧ Dis o (.slice A3 l.length c3) ∧ Bk w' X 59 cs ∧ Below (X + 1) wr w'
theorem Dis.symm {u v : Value} (h : Dis u v) : Dis v u := fun k hk e => h k e hk
theorem app_row {X : Nat} {wr : World} {R : Option Addr} {r : Nat} {l lo : List Fc} {o : Value} {cs : Array Value} (hR : OF wr (X + 1) (.slice R l.length r) l) (ho : OF wr (X + 1) o lo) (hd : Dis o (.slice R l.length r)) (hb : Bk wr X 59 cs) (hl : l.length ≤ 100) (x : Fc) (W : World) (hW : Ext wr W) (hr : ∃ B, SF W B (some ⟨wr.heap.size, 0, none⟩) 1 [x]) (hlt : wr.heap.size < W.heap.size) :
    ∃ v' w', (Builtin.append_ #[57, 57] 57 #[.slice R l.length r, .slice (some ⟨wr.heap.size, 0, none⟩) 1 1]).run Tryz.prog W = .ok v' w' ∧ AppR X (l ++ [x]) lo o cs wr v' w' := by
  obtain ⟨B, hr⟩ := hr
  have hXW : X + 1 ≤ wr.heap.size := hb.lt
  obtain ⟨A3, c3, w3, h1, h2, h3, h4, h5⟩ := OF.append5 (hR.ext hW) hr 1 (by omega) (Nat.le_trans hXW hW.lt)
  have hoW := ho.ext hW
  have hbW := hb.ext hW
  refine ⟨_, w3, h1, A3, c3, by simp, by simpa using h2, ?_, ?_, ?_, ?_⟩
  · refine ⟨hoW.1, ?_⟩
    rcases hoW.2 with e | ⟨g, cap, cur, rfl, e2, e3, rest⟩
    · exact .inl e
    · refine .inr ⟨g, cap, cur, rfl, e2, ?_, rest⟩
      rw [h4 g (lt_of_block e3) (fun a e => hd g rfl (by rw [e]; rfl))]
      exact e3
  · intro k hk e
    have e' : (Value.slice A3 (l.length + 1) c3).ownBlock = some k := by
      cases A3 with
      | none => simp [Value.ownBlock] at e
      | some ad => simpa [Value.ownBlock] using e
    rcases h5 with h5 | h5
    · rw [e'] at h5
      have h6 : (Value.slice R l.length r).ownBlock = some k := h5.symm
      exact hd k hk h6
    · rw [e'] at h5
      injection h5 with h5
      obtain ⟨cs', hcs⟩ := ho.block hk
      have := lt_of_block hcs
      have := hW.lt
      omega
  · exact (h4 X hbW.lt (fun a e => by
      have := (World.ownsRow.lt hR X (by rw [e]; rfl)).1
      omega)).trans hbW
  · exact Below.trans (Below.mono hW hXW) (h3 _ (Nat.le_refl _))

theorem SF.far {w : World} {B : Nat} {A : Option Addr} {n : Nat} {l : List Fc} (h : SF w B A n l) {p : Addr} (hp : B ≤ p.block) (u : Value) : SF (w.setCell p u) B A n l :=
  ⟨h.1, h.2.keep fun q hq => World.cell?_setCell_other _ _ _ _ (fun e => by rw [e] at hp; omega)⟩
theorem SF.down {w w' : World} {B B' : Nat} {A : Option Addr} {n : Nat} {l : List Fc} (h : SF w B A n l) (hb : Below B' w w') (hB : B ≤ B') : SF w' B A n l := ⟨h.1, h.2.below hb hB⟩
/-- The list a2 without its first fact, where the program has it. -/
theorem SF.tail2 {w : World} {B b1 off : Nat} {c : Nat} {x : Fc} {l : List Fc} (h : SF w B (some ⟨b1, off, none⟩) (x :: l).length (x :: l)) (hc : (x :: l).length ≤ c) : SF w B (if c = 1 then some ⟨b1, off, none⟩ else some ⟨b1, off + 6, none⟩) l.length l := by
  have := h.tail hc
  simpa [Addr.add_lit] using this

section
variable {a b : List Fc} {X b1 o1 b2' o2 : Nat} {B1 B2 R1 R2 A3 A4 : Option Addr} {d1 d2 r1 r2 c3 c4 : Nat} {a2 b2 at_ bt rem add : List Fc} {x y : Fc} {wr w3 w4 : World}
theorem ChgSt.left (h : ChgSt a b X (some ⟨b1, o1, none⟩) B2 R1 R2 d1 d2 r1 r2 (x :: at_) b2 rem add wr) (hlt : ∀ y ∈ b2, x.en < y.en)
    (hr3 : OF w3 (X + 1) (.slice A3 (rem ++ [x]).length c3) (rem ++ [x])) (ho3 : OF w3 (X + 1) (.slice R1 add.length r1) add) (hd3 : Dis (.slice R1 add.length r1) (.slice A3 (rem ++ [x]).length c3))
    (hb3 : Bk w3 X 59 #[.slice R1 add.length r1, .slice R2 rem.length r2]) (hx3 : Below (X + 1) wr w3) :
    ChgSt a b X (if d1 = 1 then some ⟨b1, o1, none⟩ else some ⟨b1, o1 + 6, none⟩) B2 R1 A3 (d1 - 1) d2 r1 c3 at_ b2 (rem ++ [x]) add (w3.setCell ⟨X, 1, none⟩ (.slice A3 (rem.length + 1) c3)) := by
  have hst := h.st.left hlt
  have hl := hst.lens
  have hla := h.la
  simp only [List.length_cons] at hla
  refine ⟨hst, by omega, h.lb, ?_, ?_, ?_, ho3.far (Nat.lt_succ_self X) _, hr3.far (Nat.lt_succ_self X) _, hd3, by omega, by omega⟩
  · exact ((h.sa.tail2 h.la).down hx3 (Nat.le_succ X)).far (Nat.le_refl _) _
  · exact (h.sb.down hx3 (Nat.le_succ X)).far (Nat.le_refl _) _
  · have := hb3.set 1 (.slice A3 (rem.length + 1) c3)
    simpa using this
theorem ChgSt.right (h : ChgSt a b X B1 (some ⟨b2', o2, none⟩) R1 R2 d1 d2 r1 r2 a2 (y :: bt) rem add wr) (hlt : ∀ x ∈ a2, y.en < x.en)
    (hr3 : OF w3 (X + 1) (.slice A3 (add ++ [y]).length c3) (add ++ [y])) (ho3 : OF w3 (X + 1) (.slice R2 rem.length r2) rem) (hd3 : Dis (.slice R2 rem.length r2) (.slice A3 (add ++ [y]).length c3))
    (hb3 : Bk w3 X 59 #[.slice R1 add.length r1, .slice R2 rem.length r2]) (hx3 : Below (X + 1) wr w3) :
    ChgSt a b X B1 (if d2 = 1 then some ⟨b2', o2, none⟩ else some ⟨b2', o2 + 6, none⟩) A3 R2 d1 (d2 - 1) c3 r2 a2 bt rem (add ++ [y]) (w3.setCell ⟨X, 0, none⟩ (.slice A3 (add.length + 1) c3)) := by
  have hst := h.st.right hlt
  have hl := hst.lens
  have hlb := h.lb
  simp only [List.length_cons] at hlb
  refine ⟨hst, h.la, by omega, ?_, ?_, ?_, hr3.far (Nat.lt_succ_self X) _, ho3.far (Nat.lt_succ_self X) _, hd3.symm, by omega, by omega⟩
  · exact (h.sa.down hx3 (Nat.le_succ X)).far (Nat.le_refl _) _
  · exact ((h.sb.tail2 h.lb).down hx3 (Nat.le_succ X)).far (Nat.le_refl _) _
  · have := hb3.set 0 (.slice A3 (add.length + 1) c3)
    simpa using this
/-- Both heads are the same fact. -/
theorem ChgSt.skip (h : ChgSt a b X (some ⟨b1, o1, none⟩) (some ⟨b2', o2, none⟩) R1 R2 d1 d2 r1 r2 (x :: at_) (x :: bt) rem add wr) :
    ChgSt a b X (if d1 = 1 then some ⟨b1, o1, none⟩ else some ⟨b1, o1 + 6, none⟩) (if d2 = 1 then some ⟨b2', o2, none⟩ else some ⟨b2', o2 + 6, none⟩) R1 R2 (d1 - 1) (d2 - 1) r1 r2 at_ bt rem add wr := by
  have hst := h.st.eq rfl
  simp only [if_true, List.append_nil] at hst
  have hla := h.la
  have hlb := h.lb
  simp only [List.length_cons] at hla hlb
  exact ⟨hst, by omega, by omega, h.sa.tail2 h.la, h.sb.tail2 h.lb, h.bk, h.oadd, h.orem, h.dis, h.ladd, h.lrem⟩
/-- Both heads are facts of one entry, and differ: both rows have grown, in either order. -/
theorem ChgSt.both (h : ChgSt a b X (some ⟨b1, o1, none⟩) (some ⟨b2', o2, none⟩) R1 R2 d1 d2 r1 r2 (x :: at_) (y :: bt) rem add wr) (he : x.en = y.en) (hne : x ≠ y)
    (hr3 : OF w3 (X + 1) (.slice A3 (rem ++ [x]).length c3) (rem ++ [x])) (ho3 : OF w3 (X + 1) (.slice A4 (add ++ [y]).length c4) (add ++ [y])) (hd3 : Dis (.slice A4 (add ++ [y]).length c4) (.slice A3 (rem ++ [x]).length c3))
    (hb3 : Bk w3 X 59 #[.slice A4 (add.length + 1) c4, .slice A3 (rem.length + 1) c3]) (hx3 : Below X wr w3) :
    ChgSt a b X (if d1 = 1 then some ⟨b1, o1, none⟩ else some ⟨b1, o1 + 6, none⟩) (if d2 = 1 then some ⟨b2', o2, none⟩ else some ⟨b2', o2 + 6, none⟩) A4 A3 (d1 - 1) (d2 - 1) c4 c3 at_ bt (rem ++ [x]) (add ++ [y]) w3 := by
  have hst := h.st.eq he
  simp only [if_neg hne] at hst
  have hl := hst.lens
  have hla := h.la
  have hlb := h.lb
  simp only [List.length_cons] at hla hlb
  refine ⟨hst, by omega, by omega, ?_, ?_, by simpa using hb3, ho3, hr3, hd3, by omega, by omega⟩
  · exact (h.sa.tail2 h.la).down hx3 (Nat.le_refl X)
  · exact (h.sb.tail2 h.lb).down hx3 (Nat.le_refl X)
end

theorem chg_ext {w2 wr w3 : World} (h : Ext w2 wr) (h3 : Below (w2.heap.size + 1) wr w3) (_hX : w2.heap.size < wr.heap.size) (i : Nat) (u : Value) : Ext w2 (w3.setCell ⟨w2.heap.size, i, none⟩ u) :=
  Ext.setCell (Below.trans h (Below.mono h3 (Nat.le_succ _))) (Nat.le_refl _) u

/-- Bk, with what a further block leaves of it, for the walks. -/
theorem Bk.cells2 {w : World} {g : Nat} {t : TypeId} {cs : Array Value} (h : Bk w g t cs) : (∀ i, w.cell? ⟨g, i, none⟩ = cs[i]?) ∧ (∀ i, w.frozen? ⟨g, i, none⟩ = false) ∧ (∀ o i, (w.alloc o).cell? ⟨g, i, none⟩ = cs[i]?) ∧ (∀ n o i, ((w.drewN n).alloc o).cell? ⟨g, i, none⟩ = cs[i]?) ∧
    (∀ n o i, ((w.drewN n).alloc o).frozen? ⟨g, i, none⟩ = false) ∧ (∀ o i, (w.alloc o).frozen? ⟨g, i, none⟩ = false) :=
  ⟨h.cells.1, h.cells.2, fun o => (h.alloc o).cells.1, fun n o => ((h.drewN n).alloc o).cells.1, fun n o => ((h.drewN n).alloc o).cells.2, fun o => (h.alloc o).cells.2⟩

/-- The block of the variable d: its two slices. -/
def ChgPost (l : List Vr) (fr un : Int) (w : World) (e : Ending) (w' : World) : Prop :=
  ∃ (a b : List Fc) (A1 A2 : Option Addr) (c1 c2 : Nat), e = .returned (.agg #[.slice A1 (wout b a).length c1, .slice A2 (wout a b).length c2]) ∧ IsAt l fr a ∧ IsAt l un b ∧ a.length ≤ 6 ∧ b.length ≤ 6 ∧
    SF w' w'.heap.size A1 (wout b a).length (wout b a) ∧ SF w' w'.heap.size A2 (wout a b).length (wout a b) ∧ Ext w w'

/-- The blocks from n on that W has are in w' as they were. -/
def Ext' (n : Nat) (W w' : World) : Prop := ∀ k, n ≤ k → k < W.heap.size → w'.heap[k]? = W.heap[k]?
/-- A fact laid in a block of its own since then reads as it did. -/
theorem SF.keep' {n g m : Nat} {W w' : World} {B : Nat} {l : List Fc} (h : SF W B (some ⟨g, 0, none⟩) m l) (hx : Ext' n W w') (hg : n ≤ g) (hW : g < W.heap.size) : SF w' B (some ⟨g, 0, none⟩) m l := by
  refine ⟨h.1, fun h0 => ?_⟩
  obtain ⟨b, off, e, hb, hc⟩ := h.2 h0
  injection e with e; injection e with e1 e2
  subst e1; subst e2
  refine ⟨g, 0, rfl, hb, fun i hi j u hu => ?_⟩
  have h1 := hc i hi j u hu
  have h2 := hx g hg hW
  unfold World.cell? at h1 ⊢
  simpa only [h2] using h1
/-- What an append of one fact leaves, where other blocks have been laid since wr: AppR, and the blocks laid since wr are as they were. -/
def AppG (X : Nat) (l lo : List Fc) (o : Value) (cs : Array Value) (wr W : World) (v' : Value) (w' : World) : Prop :=
  ∃ (A3 : Option Addr) (c3 : Nat), v' = .slice A3 l.length c3 ∧ OF w' (X + 1) (.slice A3 l.length c3) l ∧ OF w' (X + 1) o lo ∧ Dis o (.slice A3 l.length c3) ∧ Bk w' X 59 cs ∧ Below (X + 1) wr w' ∧ Ext' wr.heap.size W w'
theorem SF.one1 (w : World) (f : Fc) (t : TypeId) (o : Obj) : SF ((w.alloc o).alloc (.cells #[.int .i64 f.en, .string f.kd, .int .i64 f.day, .int .i64 f.byy, .int .i64 f.too, .int .i64 f.am] t)) (w.heap.size + 2) (some ⟨w.heap.size + 1, 0, none⟩) 1 [f] := by
  have := SF.one (w.alloc o) f t
  simpa using this
theorem SF.one0 (w : World) (f : Fc) (t : TypeId) (o : Obj) : SF ((w.alloc (.cells #[.int .i64 f.en, .string f.kd, .int .i64 f.day, .int .i64 f.byy, .int .i64 f.too, .int .i64 f.am] t)).alloc o) (w.heap.size + 1) (some ⟨w.heap.size, 0, none⟩) 1 [f] :=
  (SF.one w f t).ext ((Ext.refl _).alloc o) (by simp)
theorem app_gen {X : Nat} {wr : World} {R : Option Addr} {r : Nat} {l lo : List Fc} {o : Value} {cs : Array Value} (hR : OF wr (X + 1) (.slice R l.length r) l) (ho : OF wr (X + 1) o lo) (hd : Dis o (.slice R l.length r)) (hb : Bk wr X 59 cs) (hl : l.length ≤ 100) (x : Fc) (W : World) (A : Option Addr) (hW : Ext wr W) (hr : ∃ B, SF W B A 1 [x]) :
    ∃ v' w', (Builtin.append_ #[57, 57] 57 #[.slice R l.length r, .slice A 1 1]).run Tryz.prog W = .ok v' w' ∧ AppG X (l ++ [x]) lo o cs wr W v' w' := by
  obtain ⟨B, hr⟩ := hr
  have hXW : X + 1 ≤ wr.heap.size := hb.lt
  obtain ⟨A3, c3, w3, h1, h2, h3, h4, h5⟩ := OF.append5 (hR.ext hW) hr 1 (by omega) (Nat.le_trans hXW hW.lt)
  have hoW := ho.ext hW
  have hbW := hb.ext hW
  refine ⟨_, w3, h1, A3, c3, by simp, by simpa using h2, ?_, ?_, ?_, ?_, ?_⟩
  · refine ⟨hoW.1, ?_⟩
    rcases hoW.2 with e | ⟨g, cap, cur, rfl, e2, e3, rest⟩
    · exact .inl e
    · refine .inr ⟨g, cap, cur, rfl, e2, ?_, rest⟩
      rw [h4 g (lt_of_block e3) (fun a e => hd g rfl (by rw [e]; rfl))]
      exact e3
  · intro k hk e
    have e' : (Value.slice A3 (l.length + 1) c3).ownBlock = some k := by
      cases A3 with
      | none => simp [Value.ownBlock] at e
      | some ad => simpa [Value.ownBlock] using e
    rcases h5 with h5 | h5
    · rw [e'] at h5
      have h6 : (Value.slice R l.length r).ownBlock = some k := h5.symm
      exact hd k hk h6
    · rw [e'] at h5
      injection h5 with h5
      obtain ⟨cs', hcs⟩ := ho.block hk
      have := lt_of_block hcs
      have := hW.lt
      omega
  · exact (h4 X hbW.lt (fun a e => by
      have := (World.ownsRow.lt hR X (by rw [e]; rfl)).1
      omega)).trans hbW
  · exact Below.trans (Below.mono hW hXW) (h3 _ (Nat.le_refl _))
  · intro k hk hkW
    refine h4 k hkW (fun a e => ?_)
    have := (World.ownsRow.lt hR k (by rw [e]; rfl)).2
    omega

def ChgRel (a b : List Fc) (w2 : World) (s7 s8 : Value) (wr : World) : Prop :=
  ∃ (B1 B2 R1 R2 : Option Addr) (d1 d2 r1 r2 : Nat) (a2 b2 rem add : List Fc), s7 = .slice B1 a2.length d1 ∧ s8 = .slice B2 b2.length d2 ∧ ChgSt a b w2.heap.size B1 B2 R1 R2 d1 d2 r1 r2 a2 b2 rem add wr ∧ Ext w2 wr
def chgM (s7 s8 : Value) : Nat := (match s7 with | .slice _ k _ => k | _ => 0) + (match s8 with | .slice _ k _ => k | _ => 0)
theorem chgM_eq (A B : Option Addr) (n c m d : Nat) : chgM (.slice A n c) (.slice B m d) = n + m := rfl
end Go.Proofs.YtngjghblpbdciaaGreatDoor.Fa

/- Plain lists, continued: what the reference's At gathers, version by version. -/
namespace Go.Proofs.YtngjghblpbdciaaGreatDoor.Fa

theorem vat_mem {l : List Vr} {k : Nat} (h : k < l.length) : vat l k ∈ l := List.mem_of_getElem? (vat_eq h)
theorem fat_mem {l : List Fc} {k : Nat} (h : k < l.length) : fat l k ∈ l := List.mem_of_getElem? (fat_eq h)
theorem mem_fat {l : List Fc} {v : Fc} (h : v ∈ l) : ∃ k, k < l.length ∧ fat l k = v := by
  obtain ⟨i, hi, he⟩ := List.mem_iff_getElem.1 h
  exact ⟨i, hi, by simp [fat, hi, he]⟩
theorem lastOf_none_all {l : List Vr} {en : Int} (h : lastOf l en = none) : ∀ v ∈ l, v.fc.en ≠ en := by
  induction l with
  | nil => intro v hv; cases hv
  | cons u l ih =>
    simp only [lastOf] at h
    cases hl : lastOf l en with
    | some x => rw [hl] at h; simp at h
    | none =>
      rw [hl] at h; simp only at h
      intro v hv
      rcases List.mem_cons.1 hv with e | e
      · subst e; intro hu; rw [if_pos hu] at h; cases h
      · exact ih hl v e
theorem lastOf_some_iff {s : List Vr} {en : Int} {v : Vr} : lastOf s en = some v ↔ ∃ j, j < s.length ∧ vat s j = v ∧ v.fc.en = en ∧ lastOf (s.drop (j + 1)) en = none := by
  induction s with
  | nil => simp [lastOf]
  | cons u s ih =>
    simp only [lastOf]
    cases hl : lastOf s en with
    | some x =>
      simp only
      rw [← hl, ih]
      constructor
      · rintro ⟨j, h1, h2, h3, h4⟩
        exact ⟨j + 1, by simp; omega, by simpa [vat] using h2, h3, by simpa using h4⟩
      · rintro ⟨j, h1, h2, h3, h4⟩
        cases j with
        | zero => simp at h4; rw [h4] at hl; cases hl
        | succ j => exact ⟨j, by simpa using h1, by simpa [vat] using h2, h3, by simpa using h4⟩
    | none =>
      simp only
      by_cases hu : u.fc.en = en
      · rw [if_pos hu]
        constructor
        · intro e; cases e; exact ⟨0, by simp, by simp [vat], hu, by simpa using hl⟩
        · rintro ⟨j, h1, h2, h3, h4⟩
          cases j with
          | zero => simp [vat] at h2; rw [h2]
          | succ j =>
            exfalso
            have hm : v ∈ s := by
              have : vat s j = v := by simpa [vat] using h2
              rw [← this]; exact vat_mem (by simpa using h1)
            exact lastOf_none_all hl v hm h3
      · rw [if_neg hu]
        constructor
        · intro e; cases e
        · rintro ⟨j, h1, h2, h3, h4⟩
          cases j with
          | zero => simp [vat] at h2; subst h2; exact absurd h3 hu
          | succ j =>
            exfalso
            have hm : v ∈ s := by
              have : vat s j = v := by simpa [vat] using h2
              rw [← this]; exact vat_mem (by simpa using h1)
            exact lastOf_none_all hl v hm h3

/-- What the reference's At has gathered after the first i versions of s. -/
structure RAt (s : List Vr) (i : Nat) (out : List Fc) : Prop where
  sorted : out.Pairwise fun a b => a.en < b.en
  mem : ∀ f, f ∈ out ↔ ∃ j, j < i ∧ (vat s j).fc = f ∧ (vat s j).st = false ∧ lastOf (s.drop (j + 1)) f.en = none
  len : out.length ≤ i
theorem RAt.nil (s : List Vr) : RAt s 0 [] := ⟨List.Pairwise.nil, fun f => by simp, Nat.le_refl _⟩
theorem RAt.skip {s : List Vr} {i : Nat} {out : List Fc} (h : RAt s i out) (hs : (vat s i).st = true ∨ lastOf (s.drop (i + 1)) (vat s i).fc.en ≠ none) : RAt s (i + 1) out :=
  ⟨h.sorted, fun f => by
    rw [h.mem]
    constructor
    · rintro ⟨j, h1, h2⟩; exact ⟨j, by omega, h2⟩
    · rintro ⟨j, h1, h2, h3, h4⟩
      by_cases e : j = i
      · subst e; subst h2
        rcases hs with hs | hs
        · rw [hs] at h3; cases h3
        · exact absurd h4 hs
      · exact ⟨j, by omega, h2, h3, h4⟩, Nat.le_succ_of_le h.len⟩
theorem RAt.ins {s : List Vr} {i : Nat} {out : List Fc} (h : RAt s i out) (hi : i < s.length) (hst : (vat s i).st = false) (hl : lastOf (s.drop (i + 1)) (vat s i).fc.en = none) {k : Nat} (hk : k ≤ out.length)
    (h1 : ∀ j, j < k → (fat out j).en < (vat s i).fc.en) (h2 : k < out.length → ¬ (fat out k).en < (vat s i).fc.en) : RAt s (i + 1) (out.take k ++ [(vat s i).fc] ++ out.drop k) := by
  have hne : ∀ g ∈ out, g.en ≠ (vat s i).fc.en := fun g hg e => by
    obtain ⟨j, j1, j2, j3, j4⟩ := (h.mem g).1 hg
    refine lastOf_none_all j4 (vat s i) ?_ e.symm
    have e1 : vat (s.drop (j + 1)) (i - (j + 1)) = vat s i := by simp [vat, show j + 1 + (i - (j + 1)) = i by omega]
    rw [← e1]
    exact vat_mem (by simp; omega)
  have hsp := h.sorted
  rw [← List.take_append_drop k out] at hsp
  have hsp2 := List.pairwise_append.1 hsp
  have ha : ∀ x ∈ out.take k, x.en < (vat s i).fc.en := fun x hx => by
    obtain ⟨j, hj, rfl⟩ := mem_fat hx
    simp only [List.length_take] at hj
    have hj' : j < k := by omega
    have e1 : fat (out.take k) j = fat out j := by simp [fat, hj']
    rw [e1]; exact h1 j hj'
  have hb : ∀ y ∈ out.drop k, (vat s i).fc.en < y.en := fun y hy => by
    by_cases hkl : k < out.length
    · have e0 : out.drop k = fat out k :: out.drop (k + 1) := by rw [List.drop_eq_getElem_cons hkl]; simp [fat, hkl]
      have h3 := h2 hkl
      have h4 := hne (fat out k) (fat_mem hkl)
      rw [e0] at hy hsp2
      have h5 := List.pairwise_cons.1 hsp2.2.1
      rcases List.mem_cons.1 hy with e | e
      · subst e; omega
      · have := h5.1 y e; omega
    · rw [List.drop_eq_nil_of_le (by omega)] at hy; cases hy
  refine ⟨?_, fun f => ?_, ?_⟩
  · rw [List.append_assoc, List.pairwise_append, List.singleton_append, List.pairwise_cons]
    refine ⟨hsp2.1, ⟨hb, hsp2.2.1⟩, fun a ha' b hb' => ?_⟩
    rcases List.mem_cons.1 hb' with e | e
    · subst e; exact ha a ha'
    · have := ha a ha'; have := hb b e; omega
  · have hm : f ∈ out.take k ++ [(vat s i).fc] ++ out.drop k ↔ f ∈ out ∨ f = (vat s i).fc := by
      conv => rhs; rw [← List.take_append_drop k out]
      simp only [List.mem_append, List.mem_singleton]
      constructor
      · rintro ((a | a) | a) <;> simp [a]
      · rintro ((a | a) | a) <;> simp [a]
    rw [hm, h.mem]
    constructor
    · rintro (⟨j, a, b⟩ | rfl)
      · exact ⟨j, by omega, b⟩
      · exact ⟨i, by omega, rfl, hst, hl⟩
    · rintro ⟨j, a, b, c⟩
      by_cases e : j = i
      · subst e; exact .inr b.symm
      · exact .inl ⟨j, by omega, b, c⟩
  · have := h.len
    simp; omega
theorem RAt.done {l : List Vr} {op : Int} {out : List Fc} (h : RAt (upto l op) (upto l op).length out) : IsAt l op out :=
  ⟨h.sorted, fun f => by
    rw [h.mem]
    constructor
    · rintro ⟨j, a, b, c, d⟩
      exact ⟨vat (upto l op) j, lastOf_some_iff.2 ⟨j, a, rfl, by rw [b], d⟩, c, b⟩
    · rintro ⟨v, a, b, c⟩
      obtain ⟨j, h1, h2, h3, h4⟩ := lastOf_some_iff.1 a
      exact ⟨j, h1, by rw [h2]; exact c, by rw [h2]; exact b, h4⟩⟩
end Go.Proofs.YtngjghblpbdciaaGreatDoor.Fa

/- The example of the laws: its four versions in memory, and what the plain functions say of them. -/
namespace Go.Proofs.YtngjghblpbdciaaGreatDoor.Fa
open Go Go.RowKit

def fa : Fc := ⟨5, ⟨#[109, 111, 116, 105, 111, 110]⟩, 10, 0, 0, 0⟩
def fb : Fc := ⟨3, ⟨#[114, 101, 112, 108, 121]⟩, 8, 0, 0, 0⟩
def fcc : Fc := ⟨5, ⟨#[109, 111, 116, 105, 111, 110]⟩, 11, 0, 0, 0⟩
def fz : Fc := ⟨5, ⟨#[]⟩, 0, 0, 0, 0⟩
def exL : List Vr := [⟨2, false, fa⟩, ⟨4, false, fb⟩, ⟨7, false, fcc⟩, ⟨9, true, fz⟩]

theorem ex_check : checkOf exL = 0 := by decide
theorem ex_w8 : wrongOf exL ⟨8, false, fa⟩ = 12 := by decide
theorem ex_w9 : wrongOf exL ⟨9, true, fa⟩ = 3 := by decide
theorem ex_en : ∀ k, k < 4 → 0 ≤ (vat exL k).fc.en ∧ (vat exL k).fc.en ≤ 5 := by decide
theorem ex_kd : ∀ k, k < 4 → (vat exL k).fc.kd.size ≤ 12 := by decide

/-- The reference's At on lists. -/
def ratStep (s : List Vr) (out : List Fc) (i : Nat) : List Fc :=
  if (vat s i).st = true ∨ lastOf (s.drop (i + 1)) (vat s i).fc.en ≠ none then out
  else out.take (out.takeWhile fun g => decide (g.en < (vat s i).fc.en)).length ++ [(vat s i).fc] ++ out.drop (out.takeWhile fun g => decide (g.en < (vat s i).fc.en)).length
def ratOf (s : List Vr) : Nat → List Fc
  | 0 => []
  | i + 1 => ratStep s (ratOf s i) i
theorem tw_lt {l : List Fc} {p : Fc → Bool} {j : Nat} (h : j < (l.takeWhile p).length) : p (fat l j) = true := by
  induction l generalizing j with
  | nil => simp at h
  | cons x l ih =>
    rw [List.takeWhile_cons] at h
    by_cases hx : p x = true
    · rw [if_pos hx] at h
      cases j with
      | zero => simpa [fat] using hx
      | succ j => have := ih (j := j) (by simpa using h); simpa [fat] using this
    · rw [if_neg hx] at h; simp at h
theorem tw_at {l : List Fc} {p : Fc → Bool} (h : (l.takeWhile p).length < l.length) : p (fat l (l.takeWhile p).length) = false := by
  induction l with
  | nil => simp at h
  | cons x l ih =>
    rw [List.takeWhile_cons] at h ⊢
    by_cases hx : p x = true
    · rw [if_pos hx] at h ⊢
      have := ih (by simpa using h)
      simpa [fat] using this
    · rw [if_neg hx]; simpa [fat] using hx
theorem ratOf_spec (s : List Vr) : ∀ i, i ≤ s.length → RAt s i (ratOf s i)
  | 0, _ => RAt.nil s
  | i + 1, hi => by
    have ih := ratOf_spec s i (by omega)
    show RAt s (i + 1) (ratStep s (ratOf s i) i)
    unfold ratStep
    by_cases h : (vat s i).st = true ∨ lastOf (s.drop (i + 1)) (vat s i).fc.en ≠ none
    · rw [if_pos h]; exact ih.skip h
    · rw [if_neg h]
      have h1 : (vat s i).st = false := by
        cases hs : (vat s i).st with
        | false => rfl
        | true => exact absurd (.inl hs) h
      have h2 : lastOf (s.drop (i + 1)) (vat s i).fc.en = none := by
        cases hs : lastOf (s.drop (i + 1)) (vat s i).fc.en with
        | none => rfl
        | some x => exact absurd (.inr (by rw [hs]; simp)) h
      refine ih.ins (by omega) h1 h2 (List.takeWhile_sublist _).length_le (fun j hj => by simpa using tw_lt hj) (fun hj => by simpa using tw_at hj)
theorem ratOf_at (l : List Vr) (op : Int) : IsAt l op (ratOf (upto l op) (upto l op).length) := RAt.done (ratOf_spec _ _ (Nat.le_refl _))
theorem ex_at {op : Int} {m m' : List Fc} (h : IsAt exL op m) (e : ratOf (upto exL op) (upto exL op).length = m') : m = m' := by
  rw [← e]; exact h.unique (ratOf_at exL op)
theorem ex_at2 : ratOf (upto exL 2) (upto exL 2).length = [fa] := by decide
theorem ex_at4 : ratOf (upto exL 4) (upto exL 4).length = [fb, fa] := by decide
theorem ex_at6 : ratOf (upto exL 6) (upto exL 6).length = [fb, fa] := by decide
theorem ex_at7 : ratOf (upto exL 7) (upto exL 7).length = [fb, fcc] := by decide
theorem ex_at8 : ratOf (upto exL 8) (upto exL 8).length = [fb, fcc] := by decide
theorem ex_at9 : ratOf (upto exL 9) (upto exL 9).length = [fb] := by decide
theorem ex_known : ([fb, fcc].filter fun f => !pDay 9 f) = [fb] := by decide
theorem ex_hist : (exL.filter fun v => !pEn 5 v).length = 3 := by decide
theorem ex_rem : wout [fb, fa] [fb, fcc] = [fa] := by decide
theorem ex_add : wout [fb, fcc] [fb, fa] = [fcc] := by decide

def ExPost (w : World) (e : Ending) (w' : World) : Prop := e = .returned (.slice (some ⟨w.heap.size, 0, none⟩) 4 4) ∧ SV w' w'.heap.size (some ⟨w.heap.size, 0, none⟩) 4 exL ∧ Ext w w'
set_option maxRecDepth 100000 in
theorem example_any (w : World) : Calls Tryz.prog 26 #[] w (ExPost w) := by
  go_enter Tryz.func26, Tryz.ntmps26
  go_wp2
  go_ret
  refine ⟨rfl, ⟨rfl, fun _ => ⟨w.heap.size, 0, rfl, by simp, fun i hi j u hu => ?_⟩⟩, (Ext.refl w).alloc _⟩
  rw [cell_of_row _ w.heap.size _ _ 26 (0, 0) (heap_alloc_new w _)]
  have hj : j < 8 := (List.getElem?_eq_some_iff.1 hu).1
  rcases (by omega : i = 0 ∨ i = 1 ∨ i = 2 ∨ i = 3) with rfl | rfl | rfl | rfl <;>
    rcases (by omega : j = 0 ∨ j = 1 ∨ j = 2 ∨ j = 3 ∨ j = 4 ∨ j = 5 ∨ j = 6 ∨ j = 7) with rfl | rfl | rfl | rfl | rfl | rfl | rfl | rfl <;> exact hu
end Go.Proofs.YtngjghblpbdciaaGreatDoor.Fa

/- A region that draws its order, where a load may be taken first although an operation at the region's end writes its cell: two conditions on the world, T behind every operation, S behind those outside E. -/
namespace Go.Proofs.YtngjghblpbdciaaGreatDoor.Fa
open Go
section
variable {P : Program} {ops : Array Oper} {Q : Exit → Act → World → Prop} {md : Region.Mode} {S T : World → Prop} {E : Nat → Bool}

def CondE (S T : World → Prop) (E : Nat → Bool) (j : Nat) (w : World) : Prop := (E j = false → S w) ∧ T w
def wpE (P : Program) (md : Region.Mode) (ops : Array Oper) (Q : Exit → Act → World → Prop) (S T : World → Prop) (E : Nat → Bool) : Nat → Array Bool → Act → World → Prop
  | 0, l, a, w => Region.ready md ops l = [] ∧ Q .normal a w
  | n + 1, l, a, w => (Region.ready md ops l = [] → Q .normal a w) ∧ ∀ i ∈ Region.ready md ops l, wpOp P ops Q i (fun a' w' => CondE S T E i w' ∧ wpE P md ops Q S T E n (l.setIfInBounds i true) a' w') a w

theorem wpE_any : ∀ (n : Nat) (l : Array Bool) (a : Act) (w : World), wpE P md ops Q S T E n l a w → wpAny P md ops Q n l a w
  | 0, _, _, _, h => h
  | n + 1, _, _, _, h => ⟨h.1, fun i hi => wpOp_mono (fun _ _ g => wpE_any n _ _ _ g.2) (h.2 i hi)⟩

/-- No operation but i itself stands before i. -/
def Later (md : Region.Mode) (oj : Oper) (i : Nat) : Prop := ∀ e ∈ oj.after, Region.binds md e = true → e.on ≠ i
theorem wpE_first {U : World → Prop} {i : Nat} {oi : Oper} {v : Value} (hi : ops[i]? = some oi) (hsel : ∀ (j : Nat) (o : Oper) cs b, ops[j]? = some o → o.op ≠ .select cs b)
    (hQ : ∀ c a w, Q (.panic c) (a.put oi.dst v) w → Q (.panic c) a w) (hUC : ∀ w, U w → T w → CondE S T E i w) :
    ∀ (n : Nat) (l : Array Bool) (a : Act) (w : World),
      (∀ j oj, ops[j]? = some oj → j ≠ i → l.getD j true = false → Later md oj i → oi.apart ops oj = true ∧ ∀ w', CondE S T E j w' → U w') →
      i ∈ Region.ready md ops l → YieldsIf P ops U oi v a → U w → T w →
      wpE P md ops Q S T E n (l.setIfInBounds i true) (a.put oi.dst v) w → wpE P md ops Q S T E (n + 1) l a w := by
  intro n
  induction n with
  | zero =>
    intro l a w _ hr hy hU hC H
    refine ⟨fun h => absurd hr (by rw [h]; simp), fun j hj => ?_⟩
    by_cases e : j = i
    · subst e; exact hy.wpOp hi hU ⟨hUC _ hU hC, H⟩
    · exact absurd (ready_mono hj e) (by rw [H.1]; simp)
  | succ n ih =>
    intro l a w hf hr hy hU hC H
    refine ⟨fun h => absurd hr (by rw [h]; simp), fun j hj => ?_⟩
    by_cases e : j = i
    · subst e; exact hy.wpOp hi hU ⟨hUC _ hU hC, H⟩
    have hl := (mem_ready.1 hr).1
    obtain ⟨hju, oj, hoj, hall⟩ := mem_ready.1 hj
    have hlate : Later md oj i := fun d hd hb hon => by
      have h1 := hall d hd hb
      rw [hon] at h1
      by_cases hs : i < l.size
      · simp [hs] at hl h1; simp [hl] at h1
      · simp [Array.getElem?_eq_none (Nat.le_of_not_lt hs)] at h1
    obtain ⟨hap, hnext⟩ := hf j oj hoj e hju hlate
    have hmoved := wpOp_putIf hoj hap (fun cs b => hsel i oi cs b hi) (fun cs b => hsel j oj cs b hoj) hQ hy (H.2 j (ready_mono hj e))
    refine wpOp_mono (fun a' w' g => ?_) hmoved
    obtain ⟨g1, g2, g3⟩ := g
    refine ⟨g2, ih _ a' w' (fun k ok hk hki hku hkl => ?_) (ready_mono hr (Ne.symm e)) g1 (hnext w' g2) g2.2 (by rw [Array.setIfInBounds_comm _ _ e]; exact g3)⟩
    refine hf k ok hk hki ?_ hkl
    by_cases ejk : j = k
    · subst ejk; exact hju
    · rwa [getD_set_ne true ejk] at hku

/-- Every operation of E that has not come up yet waits for i. -/
def waitsB (md : Region.Mode) (ops : Array Oper) (l : Array Bool) (E : Nat → Bool) (i : Nat) : Bool :=
  (List.range ops.size).all fun j => !E j || l.getD j true || match ops[j]? with | some oj => oj.after.any (fun e => Region.binds md e && e.on == i) | none => true
theorem waitsB_spec {l : Array Bool} {i j : Nat} {oj : Oper} (h : waitsB md ops l E i = true) (hj : ops[j]? = some oj) (hl : l.getD j true = false) (hno : Later md oj i) : E j = false := by
  unfold waitsB at h
  rw [List.all_eq_true] at h
  have h1 := h j (List.mem_range.2 (Array.getElem?_eq_some_iff.1 hj).1)
  rw [hj, hl] at h1
  cases hE : E j with
  | false => rfl
  | true =>
    rw [hE] at h1
    simp only [Bool.not_true, Bool.or_false, Bool.false_or] at h1
    obtain ⟨e, he, h2⟩ := Array.any_eq_true'.1 h1
    simp only [Bool.and_eq_true, beq_iff_eq] at h2
    exact absurd h2.2 (hno e he h2.1)
/-- Take i first: what it yields hangs on T alone. -/
theorem wpE_takeT {i : Nat} {oi : Oper} {d : Option Tmp} {v : Value} {n : Nat} {l : Array Bool} {a : Act} {w : World} (hi : ops[i]? = some oi) (hd : oi.dst = d)
    (hs : Region.noSelect ops = true) (hf : Region.free md ops l i = true) (hr : (Region.ready md ops l).contains i = true) (hE : E i = true)
    (hQ : ∀ c a w, Q (.panic c) (a.put d v) w → Q (.panic c) a w) (hw : Region.wanted oi (yielded ops a.tmps) = true) (hy : ∀ w, T w → (execOp a.eval oi).run P w = .ok (.value v) w) (hT : T w)
    (h : wpE P md ops Q S T E n (l.setIfInBounds i true) (a.put d v) w) : wpE P md ops Q S T E (n + 1) l a w := by
  subst hd
  exact wpE_first (U := T) hi (Region.noSelect_spec hs) hQ (fun _ _ hT => ⟨fun h => absurd (hE.symm.trans h) (by simp), hT⟩) n l a w (fun j oj hj hne hun hno => ⟨Region.free_spec hi hf j oj hj hne hun hno, fun w' hC => hC.2⟩) (by simpa using hr) (.inl ⟨hw, hy⟩) hT hT h
/-- Take i first: what it yields hangs on S. -/
theorem wpE_takeS {i : Nat} {oi : Oper} {d : Option Tmp} {v : Value} {n : Nat} {l : Array Bool} {a : Act} {w : World} (hi : ops[i]? = some oi) (hd : oi.dst = d)
    (hs : Region.noSelect ops = true) (hf : Region.free md ops l i = true) (hr : (Region.ready md ops l).contains i = true) (hE : waitsB md ops l E i = true)
    (hQ : ∀ c a w, Q (.panic c) (a.put d v) w → Q (.panic c) a w) (hw : Region.wanted oi (yielded ops a.tmps) = true) (hy : ∀ w, S w → (execOp a.eval oi).run P w = .ok (.value v) w) (hS : S w) (hT : T w)
    (h : wpE P md ops Q S T E n (l.setIfInBounds i true) (a.put d v) w) : wpE P md ops Q S T E (n + 1) l a w := by
  subst hd
  exact wpE_first (U := S) hi (Region.noSelect_spec hs) hQ (fun _ hS hT => ⟨fun _ => hS, hT⟩) n l a w (fun j oj hj hne hun hno => ⟨Region.free_spec hi hf j oj hj hne hun hno, fun w' hC => hC.1 (waitsB_spec hE hj hun hno)⟩) (by simpa using hr) (.inl ⟨hw, hy⟩) hS hT h
def AllE (P : Program) (md : Region.Mode) (ops : Array Oper) (Q : Exit → Act → World → Prop) (S T : World → Prop) (E : Nat → Bool) (n : Nat) (l : Array Bool) (a : Act) (w : World) (rs : List Nat) : Prop :=
  ∀ i ∈ rs, wpOp P ops Q i (fun a' w' => CondE S T E i w' ∧ wpE P md ops Q S T E n (l.setIfInBounds i true) a' w') a w
theorem wpE_all {rs : List Nat} {n : Nat} {l : Array Bool} {a : Act} {w : World} (hr : Region.ready md ops l = rs) (hne : rs ≠ []) (h : AllE P md ops Q S T E n l a w rs) : wpE P md ops Q S T E (n + 1) l a w :=
  ⟨fun h0 => absurd (hr ▸ h0) hne, hr ▸ h⟩
theorem AllE.nil {n : Nat} {l : Array Bool} {a : Act} {w : World} : AllE P md ops Q S T E n l a w [] := fun i hi => by cases hi
/-- What follows the operation i, shut: 'out' opens it. -/
structure NextE (P : Program) (md : Region.Mode) (ops : Array Oper) (Q : Exit → Act → World → Prop) (S T : World → Prop) (E : Nat → Bool) (n : Nat) (l : Array Bool) (i : Nat) (K : Act → World → Prop) : Prop where
  out : ∀ a w, CondE S T E i w → (CondE S T E i w → wpE P md ops Q S T E n (l.setIfInBounds i true) a w) → K a w
theorem AllE.cons {n : Nat} {l : Array Bool} {a : Act} {w : World} {i : Nat} {o : Oper} {rs : List Nat} (ho : ops[i]? = some o)
    (h : ∀ K : Act → World → Prop, NextE P md ops Q S T E n l i K → if Region.wanted o (yielded ops a.tmps) = true then Oper.wp P o a w K Q else K (a.put o.dst undef) w)
    (hs : AllE P md ops Q S T E n l a w rs) : AllE P md ops Q S T E n l a w (i :: rs) := fun j hj => by
  rcases List.mem_cons.1 hj with e | e
  · subst e
    exact wpOp_step ho fun K hK => h K ⟨fun a w hC hN => hK a w ⟨hC, hN hC⟩⟩
  · exact hs j e
theorem wpE_done {l : Array Bool} {a : Act} {w : World} (hr : Region.ready md ops l = []) (h : Q .normal a w) : ∀ n, wpE P md ops Q S T E n l a w
  | 0 => ⟨hr, h⟩
  | _ + 1 => ⟨fun _ => h, by rw [hr]; simp⟩
theorem wp_region_E {id : Nat} {a : Act} {w : World} (S T : World → Prop) (E : Nat → Bool) (hm : P.follows .mixedOrders = true) (h : wpE P .any ops Q S T E ops.size (Array.replicate ops.size false) a w.drew) : (Code.region id ops true).wp P Q a w :=
  wp_region_any hm (wpE_any _ _ _ _ h)
end
end Go.Proofs.YtngjghblpbdciaaGreatDoor.Fa

/- The contract of facts.Changes. -/
namespace Go.Proofs.YtngjghblpbdciaaGreatDoor.Fa
open Go Go.RowKit

theorem step_append_tm {P : Program} {w : World} {o : Oper} {a : Act} {K : Act → World → Prop} {Q : Exit → Act → World → Prop} {E : Prop} {s x : Operand} {t : TypeId} {vs vx : Value} {R : Value → World → Prop} {tm : Nat → Option Bool}
    (hgd : o.guard = none) (ho : o.op = .call { callee := .builtin .append, args := #[s, x], argTypes := #[t, t] }) (hty : o.type = t) (hs : a.eval s = vs) (hx : a.eval x = vx)
    (hr : ∃ v' w', (Builtin.append_ #[t, t] t #[vs, vx]).run P w = .ok v' w' ∧ R v' w')
    (h : ∀ v' w', R v' w' → K (a.put o.dst v') w') : if Region.wanted o tm = true then Oper.wp P o a w K Q else E := by
  have h1 := step_append_ex (ops := #[]) (Q := Q) (E := E) hgd ho hty hs hx hr h
  rw [if_pos (by simp [Region.wanted, hgd])] at h1
  rw [if_pos (by simp [Region.wanted, hgd])]
  exact h1
theorem Ext.trans' {a b c : World} (h : Ext a b) (k : Below a.heap.size b c) : Ext a c := Below.trans h k
theorem ChgSt.drewN {a b : List Fc} {X : Nat} {B1 B2 R1 R2 : Option Addr} {d1 d2 r1 r2 : Nat} {a2 b2 rem add : List Fc} {wr : World} (h : ChgSt a b X B1 B2 R1 R2 d1 d2 r1 r2 a2 b2 rem add wr) (n : Nat) : ChgSt a b X B1 B2 R1 R2 d1 d2 r1 r2 a2 b2 rem add (wr.drewN n) :=
  ⟨h.st, h.la, h.lb, h.sa, h.sb, h.bk, h.oadd, h.orem, h.dis, h.ladd, h.lrem⟩
theorem ChgSt.skip2 {a b : List Fc} {X b1 o1 b2' o2 : Nat} {R1 R2 : Option Addr} {d1 d2 r1 r2 : Nat} {at_ bt rem add : List Fc} {x y : Fc} {wr : World} (h : ChgSt a b X (some ⟨b1, o1, none⟩) (some ⟨b2', o2, none⟩) R1 R2 d1 d2 r1 r2 (x :: at_) (y :: bt) rem add wr) (e : x = y) :
    ChgSt a b X (if d1 = 1 then some ⟨b1, o1, none⟩ else some ⟨b1, o1 + 6, none⟩) (if d2 = 1 then some ⟨b2', o2, none⟩ else some ⟨b2', o2 + 6, none⟩) R1 R2 (d1 - 1) (d2 - 1) r1 r2 at_ bt rem add wr := by
  subst e; exact h.skip
theorem heads_lt {x y : Fc} {l : List Fc} (h : x.en < y.en) (hh : ∀ v ∈ l, y.en < v.en) : ∀ v ∈ y :: l, x.en < v.en := fun v hv => by
  rcases List.mem_cons.1 hv with e | e
  · subst e; exact h
  · have := hh v e; omega
theorem chgM_lt {A B A' B' : Option Addr} {n c m d n' c' m' d' : Nat} (h : n < n') (h' : m ≤ m') : chgM (.slice A n c) (.slice B m d) < chgM (.slice A' n' c') (.slice B' m' d') := by
  rw [chgM_eq, chgM_eq]; omega
theorem chgM_lt2 {A B A' B' : Option Addr} {n c m d n' c' m' d' : Nat} (h : n ≤ n') (h' : m < m') : chgM (.slice A n c) (.slice B m d) < chgM (.slice A' n' c') (.slice B' m' d') := by
  rw [chgM_eq, chgM_eq]; omega

set_option maxRecDepth 100000 in
set_option maxHeartbeats 4000000 in
theorem chg_any (A : Option Addr) (n c : Nat) (l : List Vr) (fr un : Int) (w : World) (hl : n ≤ 1000) (h : SV w w.heap.size A n l) (hen : ∀ k, k < n → 0 ≤ (vat l k).fc.en ∧ (vat l k).fc.en ≤ 5) :
    Calls Tryz.prog 27 #[.slice A n c, .int .i64 fr, .int .i64 un] w (ChgPost l fr un w) := by
  have HS := Lib.hid h; clear h
  have HEN := Lib.hid hen; clear hen
  go_enter Tryz.func27, Tryz.ntmps27
  go_wp2_with fail
  have hx0 : Ext w (w.alloc (.cells #[.slice none 0 0, .slice none 0 0] 59)) := (Ext.refl w).alloc _
  refine (at_any A n c l fr _ hl (SV.lift HS.out (Nat.le_refl _) hx0) HEN.out).mono ?_
  rintro e w1 ⟨a, A1, c1, rfl, hma, h6a, hofa, hx1⟩
  have HMA := Lib.hid hma
  have HOFA := Lib.hid hofa
  have hx1' := hx0.trans hx1
  clear hma hofa
  go_wp2_with fail
  refine (at_any A n c l un _ hl (SV.lift HS.out (Nat.le_refl _) hx1') HEN.out).mono ?_
  rintro e w2 ⟨b, A2, c2, rfl, hmb, h6b, hofb, hx2⟩
  have HMB := Lib.hid hmb
  have HOFB := Lib.hid hofb
  have hx2' := hx1'.trans hx2
  have HT := Lib.hid ((Bk.new w 59 #[.slice none 0 0, .slice none 0 0]).ext (hx1.trans hx2))
  clear hmb hofb hx0 hx1' 
  have HX2 := Lib.hid hx2'
  have hsa0 : SF w2 w2.heap.size A1 a.length a := by
    obtain ⟨A9, c9, e9, _, h9⟩ := (HOFA.out.ext hx2).form
    injection e9 with e1 e2 e3; subst e1; exact h9
  have hsb0 : SF w2 w2.heap.size A2 b.length b := by
    obtain ⟨A9, c9, e9, _, h9⟩ := HOFB.out.form
    injection e9 with e1 e2 e3; subst e1; exact h9
  have hla0 : a.length ≤ c1 := by
    obtain ⟨A9, c9, e9, h9, _⟩ := HOFA.out.form
    injection e9 with e1 e2 e3; omega
  have hlb0 : b.length ≤ c2 := by
    obtain ⟨A9, c9, e9, h9, _⟩ := HOFB.out.form
    injection e9 with e1 e2 e3; omega
  have HS0 := Lib.hid hsa0
  have HS1 := Lib.hid hsb0
  clear hsa0 hsb0 hx1 hx2 hx2'
  go_wp2
  go_loopw [7, 8] (fun s7 s8 wr => ChgRel a b w2 s7 s8 wr) (fun s7 s8 _ => chgM s7 s8)
  case atStart => exact ⟨A1, A2, none, none, c1, c2, 0, 0, a, b, [], [], rfl, rfl, ⟨MSt.start HMA.out.sorted HMB.out.sorted, hla0, hlb0, HS0.out.ext ((Ext.refl w2).alloc _) (Nat.le_refl _), HS1.out.ext ((Ext.refl w2).alloc _) (Nat.le_refl _), Bk.new w2 59 _, OF.nil _ _, OF.nil _ _, fun k hk => by simp [Value.ownBlock] at hk, by simp, by simp⟩, (Ext.refl w2).alloc _⟩
  case round =>
    obtain ⟨B1, B2, R1, R2, d1, d2, r1, r2, a2, b2, rem, add, rfl, rfl, hst, hx⟩ := hrel
    have HST := Lib.hid hst
    have HX := Lib.hid hx
    obtain ⟨q1, p1, q1a, q1b, p1b, p1a⟩ := hst.bk.cells2
    have hlens := hst.st.lens
    cases a2 with
    | nil =>
      cases b2 with
      | nil =>
        have hdone := hst.st.done
        have HD := Lib.hid hdone
        have hbt : Bk wr w.heap.size 59 #[.slice none 0 0, .slice none 0 0] := HT.out.ext hx
        obtain ⟨q2, p2⟩ := hbt.cells
        clear hdone hst hx hbt
        simp only [List.length_nil]
        have hlt : w.heap.size < w2.heap.size := HT.out.lt
        go_wp2
        refine bodyPost_ret (v := .agg #[.slice R1 add.length r1, .slice R2 rem.length r2]) (by simp [results, Tryz.results27, go_sem, q2]) rfl ?_
        have hs := HST.out
        have o1 := (OF.far (OF.far hs.oadd (p := ⟨w.heap.size, 0, none⟩) (by show w.heap.size < _; omega) (.slice R1 add.length r1)) (p := ⟨w.heap.size, 1, none⟩) (by show w.heap.size < _; omega) (.slice R2 rem.length r2)).sf
        have o2 := (OF.far (OF.far hs.orem (p := ⟨w.heap.size, 0, none⟩) (by show w.heap.size < _; omega) (.slice R1 add.length r1)) (p := ⟨w.heap.size, 1, none⟩) (by show w.heap.size < _; omega) (.slice R2 rem.length r2)).sf
        have hxx : Ext w ((wr.setCell ⟨w.heap.size, 0, none⟩ (.slice R1 add.length r1)).setCell ⟨w.heap.size, 1, none⟩ (.slice R2 rem.length r2)) := ((HX2.out.trans HX.out).setCell (Nat.le_refl _) _).setCell (Nat.le_refl _) _
        obtain ⟨e1, e2⟩ := HD.out
        subst e1; subst e2
        exact ⟨a, b, R1, R2, r1, r2, rfl, HMA.out, HMB.out, h6a, h6b, o1, o2, hxx⟩
      | cons y bt =>
        obtain ⟨b2', off2, rfl, hb2, f0, f1, f2, f3, f4, f5⟩ := hst.sb.at_ (k := 0) (by simp)
        simp only [Nat.zero_mul, Nat.add_zero, show fat (y :: bt) 0 = y from rfl] at f0 f1 f2 f3 f4 f5
        have hlb := hst.lb
        simp only [List.length_cons] at hlb
        have hbY : b2' < wr.heap.size := by have := hx.lt; omega
        have j1 : decide (0 < bt.length + 1) = true := by simp
        have j2 : decide ((0 : Int) < (bt.length : Int) + 1) = true := by rw [decide_eq_true_eq]; omega
        have j3 : (0 : Int) < (bt.length : Int) + 1 := by omega
        have j4 : (1 : Int) ≤ (bt.length : Int) + 1 := by omega
        have j5 : ((bt.length : Int) + 1 == 0) = false := by simp; omega
        have hXX : w2.heap.size < wr.heap.size := hst.bk.lt
        simp only [List.length_cons, List.length_nil] at hlens
        simp only [List.length_cons, List.length_nil]
        clear hst hx
        go_wp2
        go_quiet (fail)
        go_wp2_with fail
        go_quiet (fail)
        go_wp2_with fail
        go_region_law (first
          | (refine step_append_ex (s := .tmp 97) (x := .tmp 101) rfl rfl rfl rfl rfl (app_row HST.out.oadd HST.out.orem HST.out.dis.symm HST.out.bk (by omega) y _ ((Ext.drewN (Ext.refl wr) _).alloc _) ⟨_, SF.one (wr.drewN (nq + 1)) y 24⟩ (by show _ < (World.alloc (wr.drewN (nq + 1)) _).heap.size; simp)) ?_; rintro v' w3 ⟨A3, c3, rfl, hr3, ho3, hd3, hb3, hx3⟩
             obtain ⟨q3, p3, q3a, q3b, p3b, p3a⟩ := hb3.cells2
             have HB3 := Lib.hid hb3
             have HX3 := Lib.hid hx3
             have HR3 := Lib.hid hr3
             have HO3 := Lib.hid ho3
             clear hb3 hx3 hr3 ho3)
          | fail)
        all_goals
          have hs := HST.out.right (fun _ h => by simp at h) HR3.out HO3.out hd3 HB3.out HX3.out
          have hx9 : Ext w2 (w3.setCell ⟨w2.heap.size, 0, none⟩ (.slice A3 (add.length + 1) c3)) := chg_ext HX.out HX3.out hXX 0 _
          have HS4 := Lib.hid hs
          have HX4 := Lib.hid hx9
          clear hs hx9 hd3 q1 p1 q1a q1b p1b p1a q3 p3 q3a q3b p3b p3a f0 f1 f2 f3 f4 f5
          simp only [Exit.inBlock]; rename_i QQ nq8; unfold QQ; simp only [Exit.then]; refine ⟨?_, ?lt⟩; (repeat apply Exists.intro); refine ⟨?rel, rfl⟩
          case rel => exact ⟨_, _, _, _, _, _, _, _, [], bt, rem, add ++ [y], rfl, rfl, HS4.out, HX4.out⟩
          case lt => exact chgM_lt2 (Nat.le_refl _) (Nat.lt_succ_self _)
    | cons x at_ =>
      cases b2 with
      | nil =>
        obtain ⟨b1, off, rfl, hb1, e0, e1, e2, e3, e4, e5⟩ := hst.sa.at_ (k := 0) (by simp)
        simp only [Nat.zero_mul, Nat.add_zero, show fat (x :: at_) 0 = x from rfl] at e0 e1 e2 e3 e4 e5
        have hla := hst.la
        simp only [List.length_cons] at hla
        have hbX : b1 < wr.heap.size := by have := hx.lt; omega
        have k1 : decide (0 < at_.length + 1) = true := by simp
        have k2 : decide ((0 : Int) < (at_.length : Int) + 1) = true := by rw [decide_eq_true_eq]; omega
        have k3 : (0 : Int) < (at_.length : Int) + 1 := by omega
        have k4 : (1 : Int) ≤ (at_.length : Int) + 1 := by omega
        have k5 : ((at_.length : Int) + 1 == 0) = false := by simp; omega
        have hXX : w2.heap.size < wr.heap.size := hst.bk.lt
        simp only [List.length_cons, List.length_nil] at hlens
        simp only [List.length_cons, List.length_nil]
        clear hst hx
        go_wp2
        go_quiet (fail)
        go_wp2_with fail
        go_region_law (first
          | (refine step_append_ex (s := .tmp 72) (x := .tmp 76) rfl rfl rfl rfl rfl (app_row HST.out.orem HST.out.oadd HST.out.dis HST.out.bk (by omega) x _ ((Ext.drewN (Ext.refl wr) _).alloc _) ⟨_, SF.one (wr.drewN (nq + 1)) x 24⟩ (by show _ < (World.alloc (wr.drewN (nq + 1)) _).heap.size; simp)) ?_; rintro v' w3 ⟨A3, c3, rfl, hr3, ho3, hd3, hb3, hx3⟩
             obtain ⟨q3, p3, q3a, q3b, p3b, p3a⟩ := hb3.cells2
             have HB3 := Lib.hid hb3
             have HX3 := Lib.hid hx3
             have HR3 := Lib.hid hr3
             have HO3 := Lib.hid ho3
             clear hb3 hx3 hr3 ho3)
          | fail)
        all_goals
          have hs := HST.out.left (fun _ h => by simp at h) HR3.out HO3.out hd3 HB3.out HX3.out
          have hx9 : Ext w2 (w3.setCell ⟨w2.heap.size, 1, none⟩ (.slice A3 (rem.length + 1) c3)) := chg_ext HX.out HX3.out hXX 1 _
          have HS4 := Lib.hid hs
          have HX4 := Lib.hid hx9
          clear hs hx9 hd3 q1 p1 q1a q1b p1b p1a q3 p3 q3a q3b p3b p3a e0 e1 e2 e3 e4 e5
          simp only [Exit.inBlock]; rename_i QQ; unfold QQ; simp only [Exit.then]; refine ⟨?_, ?lt⟩; (repeat apply Exists.intro); refine ⟨?rel, rfl⟩
          case rel => exact ⟨_, _, _, _, _, _, _, _, at_, [], rem ++ [x], add, rfl, rfl, HS4.out, HX4.out⟩
          case lt => exact chgM_lt (Nat.lt_succ_self _) (Nat.le_refl _)
      | cons y bt =>
        obtain ⟨b1, off, rfl, hb1, e0, e1, e2, e3, e4, e5⟩ := hst.sa.at_ (k := 0) (by simp)
        simp only [Nat.zero_mul, Nat.add_zero, show fat (x :: at_) 0 = x from rfl] at e0 e1 e2 e3 e4 e5
        have hla := hst.la
        simp only [List.length_cons] at hla
        have hbX : b1 < wr.heap.size := by have := hx.lt; omega
        have k1 : decide (0 < at_.length + 1) = true := by simp
        have k2 : decide ((0 : Int) < (at_.length : Int) + 1) = true := by rw [decide_eq_true_eq]; omega
        have k3 : (0 : Int) < (at_.length : Int) + 1 := by omega
        have k4 : (1 : Int) ≤ (at_.length : Int) + 1 := by omega
        have k5 : ((at_.length : Int) + 1 == 0) = false := by simp; omega
        obtain ⟨b2', off2, rfl, hb2, f0, f1, f2, f3, f4, f5⟩ := hst.sb.at_ (k := 0) (by simp)
        simp only [Nat.zero_mul, Nat.add_zero, show fat (y :: bt) 0 = y from rfl] at f0 f1 f2 f3 f4 f5
        have hlb := hst.lb
        simp only [List.length_cons] at hlb
        have hbY : b2' < wr.heap.size := by have := hx.lt; omega
        have j1 : decide (0 < bt.length + 1) = true := by simp
        have j2 : decide ((0 : Int) < (bt.length : Int) + 1) = true := by rw [decide_eq_true_eq]; omega
        have j3 : (0 : Int) < (bt.length : Int) + 1 := by omega
        have j4 : (1 : Int) ≤ (bt.length : Int) + 1 := by omega
        have j5 : ((bt.length : Int) + 1 == 0) = false := by simp; omega
        have hheads := hst.st.heads
        have HH := Lib.hid hheads
        clear hheads
        have hXX : w2.heap.size < wr.heap.size := hst.bk.lt
        simp only [List.length_cons] at hlens
        simp only [List.length_cons]
        clear hst hx
        by_cases hlt : x.en < y.en
        · have m1 : decide (x.en < y.en) = true := decide_eq_true hlt
          have HLT := Lib.hid hlt
          clear hlt
          go_wp2
          go_quiet (fail)
          go_wp2_with fail
          go_region_law (first
            | (refine step_append_ex (s := .tmp 72) (x := .tmp 76) rfl rfl rfl rfl rfl (app_row HST.out.orem HST.out.oadd HST.out.dis HST.out.bk (by omega) x _ ((Ext.drewN (Ext.refl wr) _).alloc _) ⟨_, SF.one (wr.drewN (nq + 1)) x 24⟩ (by show _ < (World.alloc (wr.drewN (nq + 1)) _).heap.size; simp)) ?_; rintro v' w3 ⟨A3, c3, rfl, hr3, ho3, hd3, hb3, hx3⟩
               obtain ⟨q3, p3, q3a, q3b, p3b, p3a⟩ := hb3.cells2
               have HB3 := Lib.hid hb3
               have HX3 := Lib.hid hx3
               have HR3 := Lib.hid hr3
               have HO3 := Lib.hid ho3
               clear hb3 hx3 hr3 ho3)
            | fail)
          all_goals
            have hs := HST.out.left (heads_lt HLT.out HH.out.2) HR3.out HO3.out hd3 HB3.out HX3.out
            have hx9 : Ext w2 (w3.setCell ⟨w2.heap.size, 1, none⟩ (.slice A3 (rem.length + 1) c3)) := chg_ext HX.out HX3.out hXX 1 _
            have HS4 := Lib.hid hs
            have HX4 := Lib.hid hx9
            clear hs hx9 hd3 q1 p1 q1a q1b p1b p1a q3 p3 q3a q3b p3b p3a e0 e1 e2 e3 e4 e5 f0 f1 f2 f3 f4 f5
            simp only [Exit.inBlock]; rename_i QQ; unfold QQ; simp only [Exit.then]; refine ⟨?_, ?lt⟩; (repeat apply Exists.intro); refine ⟨?rel, rfl⟩
            case rel => exact ⟨_, _, _, _, _, _, _, _, at_, y :: bt, rem ++ [x], add, rfl, rfl, HS4.out, HX4.out⟩
            case lt => exact chgM_lt (Nat.lt_succ_self _) (Nat.le_refl _)
        · have m1 : decide (x.en < y.en) = false := decide_eq_false hlt
          by_cases hgt : y.en < x.en
          · have m2 : decide (y.en < x.en) = true := decide_eq_true hgt
            have HLT := Lib.hid hgt
            clear hlt hgt
            go_wp2
            go_quiet (fail)
            go_wp2_with fail
            go_quiet (fail)
            go_wp2_with fail
            go_region_law (first
              | (refine step_append_ex (s := .tmp 97) (x := .tmp 101) rfl rfl rfl rfl rfl (app_row HST.out.oadd HST.out.orem HST.out.dis.symm HST.out.bk (by omega) y _ ((Ext.drewN (Ext.refl wr) _).alloc _) ⟨_, SF.one (wr.drewN (nq + 1)) y 24⟩ (by show _ < (World.alloc (wr.drewN (nq + 1)) _).heap.size; simp)) ?_; rintro v' w3 ⟨A3, c3, rfl, hr3, ho3, hd3, hb3, hx3⟩
                 obtain ⟨q3, p3, q3a, q3b, p3b, p3a⟩ := hb3.cells2
                 have HB3 := Lib.hid hb3
                 have HX3 := Lib.hid hx3
                 have HR3 := Lib.hid hr3
                 have HO3 := Lib.hid ho3
                 clear hb3 hx3 hr3 ho3)
              | fail)
            all_goals
              have hs := HST.out.right (heads_lt HLT.out HH.out.1) HR3.out HO3.out hd3 HB3.out HX3.out
              have hx9 : Ext w2 (w3.setCell ⟨w2.heap.size, 0, none⟩ (.slice A3 (add.length + 1) c3)) := chg_ext HX.out HX3.out hXX 0 _
              have HS4 := Lib.hid hs
              have HX4 := Lib.hid hx9
              clear hs hx9 hd3 q1 p1 q1a q1b p1b p1a q3 p3 q3a q3b p3b p3a e0 e1 e2 e3 e4 e5 f0 f1 f2 f3 f4 f5
              simp only [Exit.inBlock]; rename_i QQ nq8; unfold QQ; simp only [Exit.then]; refine ⟨?_, ?lt⟩; (repeat apply Exists.intro); refine ⟨?rel, rfl⟩
              case rel => exact ⟨_, _, _, _, _, _, _, _, x :: at_, bt, rem, add ++ [y], rfl, rfl, HS4.out, HX4.out⟩
              case lt => exact chgM_lt2 (Nat.le_refl _) (Nat.lt_succ_self _)
          · have m2 : decide (y.en < x.en) = false := decide_eq_false hgt
            have HEQ := Lib.hid (show x.en = y.en by omega)
            clear hlt hgt
            have hcmp := fun W => eqF x y W
            cases hd : decide (x = y)
            · rw [hd] at hcmp
              have HXY := Lib.hid (of_decide_eq_false hd)
              clear hd
              go_wp2
              go_quiet (fail)
              go_wp2_with fail
              go_quiet (fail)
              go_wp2_with fail
              go_quiet (fail)
              go_wp2_with fail
              clear hcmp q1 p1 q1a q1b p1b p1a e0 e1 e2 e3 e4 e5 f0 f1 f2 f3 f4 f5 k1 k2 k3 k4 k5 j1 j2 j3 j4 j5 m1 m2 hXX hbX hbY
              rename_i QQ nq1 nq2 Kx hKx
              obtain ⟨w5, hw5, hst5, hx5⟩ : ∃ w5, ((wr.drewN nq1).drewN nq2).drewN nq = w5 ∧ ChgSt a b w2.heap.size (some ⟨b1, off, none⟩) (some ⟨b2', off2, none⟩) R1 R2 d1 d2 r1 r2 (x :: at_) (y :: bt) rem add w5 ∧ Ext w2 w5 := ⟨_, rfl, ((HST.out.drewN _).drewN _).drewN _, ((HX.out.drewN _).drewN _).drewN _⟩
              rw [hw5]
              clear hw5
              have HST5 := Lib.hid hst5
              have HX5 := Lib.hid hx5
              obtain ⟨q1, p1, q1a, q1b, p1b, p1a⟩ := hst5.bk.cells2
              have hb1' : b1 < w5.heap.size := by have := hx5.lt; omega
              have hb2' : b2' < w5.heap.size := by have := hx5.lt; omega
              obtain ⟨_, _, ee, _, e0, e1, e2, e3, e4, e5⟩ := hst5.sa.at_ (k := 0) (by simp)
              injection ee with ee; injection ee with ee1 ee2
              subst ee1; subst ee2
              obtain ⟨_, _, ee, _, f0, f1, f2, f3, f4, f5⟩ := hst5.sb.at_ (k := 0) (by simp)
              injection ee with ee; injection ee with ee1 ee2
              subst ee1; subst ee2
              simp only [Nat.zero_mul, Nat.add_zero, show fat (x :: at_) 0 = x from rfl] at e0 e1 e2 e3 e4 e5
              simp only [Nat.zero_mul, Nat.add_zero, show fat (y :: bt) 0 = y from rfl] at f0 f1 f2 f3 f4 f5
              clear hst5 hx5
              have hgen : ∀ (W : World) (o : Obj) (p : Addr), p.block < W.heap.size → (W.alloc o).cell? p = W.cell? p := fun W o p h => World.cell?_alloc_lt _ _ _ h
              have hX5 := HST5.out.bk.lt
              have hX5' := Nat.le_of_lt hX5
              have hb1'' := Nat.le_of_lt hb1'
              have hb2'' := Nat.le_of_lt hb2'
              have k3 : (0 : Int) < (at_.length : Int) + 1 := by omega
              have j3 : (0 : Int) < (bt.length : Int) + 1 := by omega
              have hXb1 : b1 < w2.heap.size := hb1
              have hXb2 : b2' < w2.heap.size := hb2
              refine wp_region_E (fun w' => Bk w' w2.heap.size 59 #[.slice R1 add.length r1, .slice R2 rem.length r2]) (fun w' => Below w2.heap.size w5 w') (fun j => !(j == 1 || j == 5 || j == 6 || j == 8 || j == 12 || j == 13)) (by kernel_rfl) ?_
              have hS0 : Bk w5.drew w2.heap.size 59 #[.slice R1 add.length r1, .slice R2 rem.length r2] := HST5.out.bk.drew
              have hT0 : Below w2.heap.size w5 w5.drew := Below.drew (Below.refl _ _)
              refine wpE_takeT (i := 0) (d := some 31) (v := .pointer (some ⟨w2.heap.size, 1, none⟩)) rfl rfl (by kernel_rfl) (by kernel_rfl) (by kernel_rfl) rfl (fun _ _ _ h => h) (by rfl) ?hy1 hT0 ?go1
              case hy1 =>
                intro w9 hT9
                clear hT9 e0 e1 e2 e3 e4 e5 f0 f1 f2 f3 f4 f5
                go_simp
              (try simp only [Act.put, List.setIfInBounds_toArray, List.set_cons_zero, List.set_cons_succ])
              refine wpE_takeT (i := 2) (d := some 33) (v := .slice (some ⟨b1, off, none⟩) (at_.length + 1) d1) rfl rfl (by kernel_rfl) (by kernel_rfl) (by kernel_rfl) rfl (fun _ _ _ h => h) (by rfl) ?hy2 hT0 ?go2
              case hy2 =>
                intro w9 hT9
                clear hT9 e0 e1 e2 e3 e4 e5 f0 f1 f2 f3 f4 f5
                go_simp
              (try simp only [Act.put, List.setIfInBounds_toArray, List.set_cons_zero, List.set_cons_succ])
              refine wpE_takeT (i := 3) (d := some 34) (v := .pointer (some ⟨b1, off, none⟩)) rfl rfl (by kernel_rfl) (by kernel_rfl) (by kernel_rfl) rfl (fun _ _ _ h => h) (by rfl) ?hy3 hT0 ?go3
              case hy3 =>
                intro w9 hT9
                clear hT9 e0 e1 e2 e3 e4 e5 f0 f1 f2 f3 f4 f5
                go_simp
              (try simp only [Act.put, List.setIfInBounds_toArray, List.set_cons_zero, List.set_cons_succ])
              refine wpE_takeT (i := 4) (d := some 35) (v := .agg #[.int .i64 x.en, .string x.kd, .int .i64 x.day, .int .i64 x.byy, .int .i64 x.too, .int .i64 x.am]) rfl rfl (by kernel_rfl) (by kernel_rfl) (by kernel_rfl) rfl (fun _ _ _ h => h) (by rfl) ?hy4 hT0 ?go4
              case hy4 =>
                intro w9 hT9
                have g0 := (hT9.cell (p := ⟨b1, off, none⟩) hXb1).trans e0; have g1 := (hT9.cell (p := ⟨b1, off + 1, none⟩) hXb1).trans e1; have g2 := (hT9.cell (p := ⟨b1, off + 2, none⟩) hXb1).trans e2; have g3 := (hT9.cell (p := ⟨b1, off + 3, none⟩) hXb1).trans e3; have g4 := (hT9.cell (p := ⟨b1, off + 4, none⟩) hXb1).trans e4; have g5 := (hT9.cell (p := ⟨b1, off + 5, none⟩) hXb1).trans e5
                clear hT9 e0 e1 e2 e3 e4 e5 f0 f1 f2 f3 f4 f5
                go_simp
              (try simp only [Act.put, List.setIfInBounds_toArray, List.set_cons_zero, List.set_cons_succ])
              refine wpE_takeT (i := 7) (d := some 38) (v := .pointer (some ⟨w2.heap.size, 0, none⟩)) rfl rfl (by kernel_rfl) (by kernel_rfl) (by kernel_rfl) rfl (fun _ _ _ h => h) (by rfl) ?hy5 hT0 ?go5
              case hy5 =>
                intro w9 hT9
                clear hT9 e0 e1 e2 e3 e4 e5 f0 f1 f2 f3 f4 f5
                go_simp
              (try simp only [Act.put, List.setIfInBounds_toArray, List.set_cons_zero, List.set_cons_succ])
              refine wpE_takeT (i := 9) (d := some 40) (v := .slice (some ⟨b2', off2, none⟩) (bt.length + 1) d2) rfl rfl (by kernel_rfl) (by kernel_rfl) (by kernel_rfl) rfl (fun _ _ _ h => h) (by rfl) ?hy6 hT0 ?go6
              case hy6 =>
                intro w9 hT9
                clear hT9 e0 e1 e2 e3 e4 e5 f0 f1 f2 f3 f4 f5
                go_simp
              (try simp only [Act.put, List.setIfInBounds_toArray, List.set_cons_zero, List.set_cons_succ])
              refine wpE_takeT (i := 10) (d := some 41) (v := .pointer (some ⟨b2', off2, none⟩)) rfl rfl (by kernel_rfl) (by kernel_rfl) (by kernel_rfl) rfl (fun _ _ _ h => h) (by rfl) ?hy7 hT0 ?go7
              case hy7 =>
                intro w9 hT9
                clear hT9 e0 e1 e2 e3 e4 e5 f0 f1 f2 f3 f4 f5
                go_simp
              (try simp only [Act.put, List.setIfInBounds_toArray, List.set_cons_zero, List.set_cons_succ])
              refine wpE_takeT (i := 11) (d := some 42) (v := .agg #[.int .i64 y.en, .string y.kd, .int .i64 y.day, .int .i64 y.byy, .int .i64 y.too, .int .i64 y.am]) rfl rfl (by kernel_rfl) (by kernel_rfl) (by kernel_rfl) rfl (fun _ _ _ h => h) (by rfl) ?hy8 hT0 ?go8
              case hy8 =>
                intro w9 hT9
                have g0 := (hT9.cell (p := ⟨b2', off2, none⟩) hXb2).trans f0; have g1 := (hT9.cell (p := ⟨b2', off2 + 1, none⟩) hXb2).trans f1; have g2 := (hT9.cell (p := ⟨b2', off2 + 2, none⟩) hXb2).trans f2; have g3 := (hT9.cell (p := ⟨b2', off2 + 3, none⟩) hXb2).trans f3; have g4 := (hT9.cell (p := ⟨b2', off2 + 4, none⟩) hXb2).trans f4; have g5 := (hT9.cell (p := ⟨b2', off2 + 5, none⟩) hXb2).trans f5
                clear hT9 e0 e1 e2 e3 e4 e5 f0 f1 f2 f3 f4 f5
                go_simp
              (try simp only [Act.put, List.setIfInBounds_toArray, List.set_cons_zero, List.set_cons_succ])
              refine wpE_takeS (i := 1) (d := some 32) (v := .slice R2 rem.length r2) rfl rfl (by kernel_rfl) (by kernel_rfl) (by kernel_rfl) (by kernel_rfl) (fun _ _ _ h => h) (by rfl) ?hy9 hS0 hT0 ?go9
              case hy9 =>
                intro w9 hS9
                obtain ⟨g0, g1⟩ := hS9.cells
                clear hS9 e0 e1 e2 e3 e4 e5 f0 f1 f2 f3 f4 f5
                go_simp
              (try simp only [Act.put, List.setIfInBounds_toArray, List.set_cons_zero, List.set_cons_succ])
              refine wpE_takeS (i := 8) (d := some 39) (v := .slice R1 add.length r1) rfl rfl (by kernel_rfl) (by kernel_rfl) (by kernel_rfl) (by kernel_rfl) (fun _ _ _ h => h) (by rfl) ?hy10 hS0 hT0 ?go10
              case hy10 =>
                intro w9 hS9
                obtain ⟨g0, g1⟩ := hS9.cells
                clear hS9 e0 e1 e2 e3 e4 e5 f0 f1 f2 f3 f4 f5
                go_simp
              (try simp only [Act.put, List.setIfInBounds_toArray, List.set_cons_zero, List.set_cons_succ])
              clear e0 e1 e2 e3 e4 e5 f0 f1 f2 f3 f4 f5 q1 p1 q1a q1b p1b p1a hgen
              refine wpE_all (rs := [5, 12]) (by kernel_rfl) (by simp) ?_
              refine AllE.cons rfl (fun K hK => ?_) ?_
              · simp only [List.getElem_toArray, List.getElem_cons_succ, List.getElem_cons_zero]
                go_simp
                refine hK.out _ _ ⟨fun _ => hS0.alloc _, Below.alloc hT0 (Nat.le_of_lt hX5) _⟩ (fun _ => ?_)
                clear hK K
                (try simp only [Act.put, List.setIfInBounds_toArray, List.set_cons_zero, List.set_cons_succ])
                refine wpE_all (rs := [6, 12]) (by kernel_rfl) (by simp) ?_
                refine AllE.cons rfl (fun K hK => ?_) ?_
                · simp only [List.getElem_toArray, List.getElem_cons_succ, List.getElem_cons_zero]
                  have hap := app_gen HST5.out.orem HST5.out.oadd HST5.out.dis HST5.out.bk (by omega) x (w5.drew.alloc (.cells #[.int .i64 x.en, .string x.kd, .int .i64 x.day, .int .i64 x.byy, .int .i64 x.too, .int .i64 x.am] 24)) (some ⟨w5.heap.size, 0, none⟩) ((Ext.refl w5).drew.alloc _) ⟨_, SF.one w5.drew x 24⟩
                  refine step_append_tm (s := .tmp 32) (x := .tmp 36) rfl rfl rfl rfl rfl hap ?_
                  clear hap
                  rintro v' w3 ⟨A3, c3, rfl, hr3, ho3, hd3, hb3, hx3, hn3⟩
                  have HBR := Lib.hid hb3; have HX3 := Lib.hid hx3; have HR := Lib.hid hr3; have HOR := Lib.hid ho3; have HDR := Lib.hid hd3
                  have HBL3 := Lib.hid (Below.mono hx3 (Nat.le_succ _))
                  clear hb3 hx3 hr3 ho3 hd3 hn3
                  refine hK.out _ _ ⟨fun _ => HBR.out, HBL3.out⟩ (fun _ => ?_)
                  clear hK K
                  (try simp only [Act.put, List.setIfInBounds_toArray, List.set_cons_zero, List.set_cons_succ])
                  refine wpE_takeT (i := 14) (d := some 45) (v := .pointer (some ⟨w2.heap.size, 1, none⟩)) rfl rfl (by kernel_rfl) (by kernel_rfl) (by kernel_rfl) rfl (fun _ _ _ h => h) (by rfl) ?hy11 HBL3.out ?go11
                  case hy11 =>
                    intro w9 hT9
                    clear hT9
                    go_simp
                  (try simp only [Act.put, List.setIfInBounds_toArray, List.set_cons_zero, List.set_cons_succ])
                  refine wpE_all (rs := [12]) (by kernel_rfl) (by simp) ?_
                  refine AllE.cons rfl (fun K hK => ?_) AllE.nil
                  simp only [List.getElem_toArray, List.getElem_cons_succ, List.getElem_cons_zero]
                  go_simp
                  refine hK.out _ _ ⟨fun _ => HBR.out.alloc _, Below.alloc HBL3.out (Nat.le_trans (Nat.le_of_lt hX5) HX3.out.size) _⟩ (fun _ => ?_)
                  clear hK K
                  (try simp only [Act.put, List.setIfInBounds_toArray, List.set_cons_zero, List.set_cons_succ])
                  refine wpE_all (rs := [13]) (by kernel_rfl) (by simp) ?_
                  refine AllE.cons rfl (fun K hK => ?_) AllE.nil
                  simp only [List.getElem_toArray, List.getElem_cons_succ, List.getElem_cons_zero]
                  skip
                  have hap := app_gen HOR.out HR.out HDR.out.symm HBR.out (by omega) y (w3.alloc (.cells #[.int .i64 y.en, .string y.kd, .int .i64 y.day, .int .i64 y.byy, .int .i64 y.too, .int .i64 y.am] 24)) (some ⟨w3.heap.size, 0, none⟩) ((Ext.refl w3).alloc _) ⟨_, SF.one w3 y 24⟩
                  refine step_append_tm (s := .tmp 39) (x := .tmp 43) rfl rfl rfl rfl rfl hap ?_
                  clear hap
                  rintro v' w4 ⟨A4, c4, rfl, hr4, ho4, hd4, hb4, hx4, hn4⟩
                  have HB4 := Lib.hid hb4; have HX4 := Lib.hid hx4; have HR4 := Lib.hid hr4; have HO4 := Lib.hid ho4; have HD4 := Lib.hid hd4
                  have HBL4 := Lib.hid (Below.trans HBL3.out (Below.mono hx4 (Nat.le_succ _)))
                  obtain ⟨q4, p4⟩ := hb4.cells
                  clear hb4 hx4 hr4 ho4 hd4 hn4
                  refine hK.out _ _ ⟨fun _ => HB4.out, HBL4.out⟩ (fun _ => ?_)
                  clear hK K
                  (try simp only [Act.put, List.setIfInBounds_toArray, List.set_cons_zero, List.set_cons_succ])
                  refine wpE_all (rs := [15]) (by kernel_rfl) (by simp) ?_
                  refine AllE.cons rfl (fun K hK => ?_) AllE.nil
                  simp only [List.getElem_toArray, List.getElem_cons_succ, List.getElem_cons_zero]
                  go_simp
                  refine hK.out _ _ ⟨fun h => absurd h (by simp), Below.setCell HBL4.out (Nat.le_refl _) _⟩ (fun _ => ?_)
                  clear hK K
                  (try simp only [Act.put, List.setIfInBounds_toArray, List.set_cons_zero, List.set_cons_succ])
                  refine wpE_all (rs := [16]) (by kernel_rfl) (by simp) ?_
                  refine AllE.cons rfl (fun K hK => ?_) AllE.nil
                  simp only [List.getElem_toArray, List.getElem_cons_succ, List.getElem_cons_zero]
                  go_simp
                  refine hK.out _ _ ⟨fun h => absurd h (by simp), Below.setCell HBL4.out (Nat.le_refl _) _⟩ (fun _ => ?_)
                  clear hK K
                  (try simp only [Act.put, List.setIfInBounds_toArray, List.set_cons_zero, List.set_cons_succ])
                  refine wpE_all (rs := [17]) (by kernel_rfl) (by simp) ?_
                  refine AllE.cons rfl (fun K hK => ?_) AllE.nil
                  simp only [List.getElem_toArray, List.getElem_cons_succ, List.getElem_cons_zero]
                  go_simp
                  refine hK.out _ _ ⟨fun h => absurd h (by simp), Below.setCell (Below.setCell HBL4.out (Nat.le_refl _) _) (Nat.le_refl _) _⟩ (fun _ => ?_)
                  clear hK K
                  (try simp only [Act.put, List.setIfInBounds_toArray, List.set_cons_zero, List.set_cons_succ])
                  refine wpE_done (by kernel_rfl) ?_ _
                  have hx6 : Below w2.heap.size w5 ((w4.setCell ⟨w2.heap.size, 1, none⟩ (.slice A3 (rem.length + 1) c3)).setCell ⟨w2.heap.size, 0, none⟩ (.slice A4 (add.length + 1) c4)) := Below.setCell (Below.setCell HBL4.out (Nat.le_refl _) _) (Nat.le_refl _) _
                  have hb6 : Bk ((w4.setCell ⟨w2.heap.size, 1, none⟩ (.slice A3 (rem.length + 1) c3)).setCell ⟨w2.heap.size, 0, none⟩ (.slice A4 (add.length + 1) c4)) w2.heap.size 59 #[.slice A4 (add.length + 1) c4, .slice A3 (rem.length + 1) c3] := by have := (HB4.out.set 1 (.slice A3 (rem.length + 1) c3)).set 0 (.slice A4 (add.length + 1) c4); simpa using this
                  have HS6 := Lib.hid (HST5.out.both HEQ.out HXY.out ((HO4.out.far (Nat.lt_succ_self _) _).far (Nat.lt_succ_self _) _) ((HR4.out.far (Nat.lt_succ_self _) _).far (Nat.lt_succ_self _) _) HD4.out.symm hb6 hx6)
                  have HX6 := Lib.hid (Ext.trans' HX5.out hx6)
                  clear hx6 hb6 p4 HBL4 HD4 HO4 HR4 HB4 HX4 hS0 hT0 HBL3 HDR HOR HR HBR HX3
                  generalize w4.setCell ⟨w2.heap.size, 1, none⟩ (.slice A3 (rem.length + 1) c3) = w7 at HS6 HX6 ⊢
                  generalize w7.setCell ⟨w2.heap.size, 0, none⟩ (.slice A4 (add.length + 1) c4) = w8 at HS6 HX6 ⊢
                  have k1 : decide (0 < at_.length + 1) = true := by simp
                  have k2 : decide ((0 : Int) < (at_.length : Int) + 1) = true := by rw [decide_eq_true_eq]; omega
                  have k4 : (1 : Int) ≤ (at_.length : Int) + 1 := by omega
                  have k5 : ((at_.length : Int) + 1 == 0) = false := by simp; omega
                  have j1 : decide (0 < bt.length + 1) = true := by simp
                  have j2 : decide ((0 : Int) < (bt.length : Int) + 1) = true := by rw [decide_eq_true_eq]; omega
                  have j4 : (1 : Int) ≤ (bt.length : Int) + 1 := by omega
                  have j5 : ((bt.length : Int) + 1 == 0) = false := by simp; omega
                  go_wp2_with fail
                  go_quiet (fail)
                  simp only [Exit.inBlock]; unfold QQ; simp only [Exit.then]; refine ⟨?_, ?lt⟩; (repeat apply Exists.intro); refine ⟨?rel, rfl⟩
                  case rel => exact ⟨_, _, _, _, _, _, _, _, at_, bt, rem ++ [x], add ++ [y], rfl, rfl, HS6.out.drewN _, HX6.out.drewN _⟩
                  case lt => exact chgM_lt (Nat.lt_succ_self _) (Nat.le_succ _)
                refine AllE.cons rfl (fun K hK => ?_) ?_
                · simp only [List.getElem_toArray, List.getElem_cons_succ, List.getElem_cons_zero]
                  go_simp
                  refine hK.out _ _ ⟨fun _ => (hS0.alloc _).alloc _, Below.alloc (Below.alloc hT0 (Nat.le_of_lt hX5) _) (by simp; omega) _⟩ (fun _ => ?_)
                  clear hK K
                  (try simp only [Act.put, List.setIfInBounds_toArray, List.set_cons_zero, List.set_cons_succ])
                  refine wpE_all (rs := [6]) (by kernel_rfl) (by simp) ?_
                  refine AllE.cons rfl (fun K hK => ?_) AllE.nil
                  simp only [List.getElem_toArray, List.getElem_cons_succ, List.getElem_cons_zero]
                  have hap := app_gen HST5.out.orem HST5.out.oadd HST5.out.dis HST5.out.bk (by omega) x ((w5.drew.alloc (.cells #[.int .i64 x.en, .string x.kd, .int .i64 x.day, .int .i64 x.byy, .int .i64 x.too, .int .i64 x.am] 24)).alloc (.cells #[.int .i64 y.en, .string y.kd, .int .i64 y.day, .int .i64 y.byy, .int .i64 y.too, .int .i64 y.am] 24)) (some ⟨w5.heap.size, 0, none⟩) (((Ext.refl w5).drew.alloc _).alloc _) ⟨_, SF.one0 w5.drew x 24 _⟩
                  refine step_append_tm (s := .tmp 32) (x := .tmp 36) rfl rfl rfl rfl rfl hap ?_
                  clear hap
                  rintro v' w3 ⟨A3, c3, rfl, hr3, ho3, hd3, hb3, hx3, hn3⟩
                  have HSZ := Lib.hid (SF.keep' (SF.one1 w5.drew y 24 _) hn3 (Nat.le_succ _) (by simp))
                  have HBR := Lib.hid hb3; have HX3 := Lib.hid hx3; have HR := Lib.hid hr3; have HOR := Lib.hid ho3; have HDR := Lib.hid hd3
                  have HBL3 := Lib.hid (Below.mono hx3 (Nat.le_succ _))
                  clear hb3 hx3 hr3 ho3 hd3 hn3
                  refine hK.out _ _ ⟨fun _ => HBR.out, HBL3.out⟩ (fun _ => ?_)
                  clear hK K
                  (try simp only [Act.put, List.setIfInBounds_toArray, List.set_cons_zero, List.set_cons_succ])
                  refine wpE_takeT (i := 14) (d := some 45) (v := .pointer (some ⟨w2.heap.size, 1, none⟩)) rfl rfl (by kernel_rfl) (by kernel_rfl) (by kernel_rfl) rfl (fun _ _ _ h => h) (by rfl) ?hy12 HBL3.out ?go12
                  case hy12 =>
                    intro w9 hT9
                    clear hT9
                    go_simp
                  (try simp only [Act.put, List.setIfInBounds_toArray, List.set_cons_zero, List.set_cons_succ])
                  refine wpE_all (rs := [13]) (by kernel_rfl) (by simp) ?_
                  refine AllE.cons rfl (fun K hK => ?_) AllE.nil
                  simp only [List.getElem_toArray, List.getElem_cons_succ, List.getElem_cons_zero]
                  skip
                  have hap := app_gen HOR.out HR.out HDR.out.symm HBR.out (by omega) y w3 (some ⟨w5.heap.size + 1, 0, none⟩) (Ext.refl _) ⟨_, HSZ.out⟩
                  refine step_append_tm (s := .tmp 39) (x := .tmp 43) rfl rfl rfl rfl rfl hap ?_
                  clear hap
                  rintro v' w4 ⟨A4, c4, rfl, hr4, ho4, hd4, hb4, hx4, hn4⟩
                  have HB4 := Lib.hid hb4; have HX4 := Lib.hid hx4; have HR4 := Lib.hid hr4; have HO4 := Lib.hid ho4; have HD4 := Lib.hid hd4
                  have HBL4 := Lib.hid (Below.trans HBL3.out (Below.mono hx4 (Nat.le_succ _)))
                  obtain ⟨q4, p4⟩ := hb4.cells
                  clear hb4 hx4 hr4 ho4 hd4 hn4
                  refine hK.out _ _ ⟨fun _ => HB4.out, HBL4.out⟩ (fun _ => ?_)
                  clear hK K
                  (try simp only [Act.put, List.setIfInBounds_toArray, List.set_cons_zero, List.set_cons_succ])
                  refine wpE_all (rs := [15]) (by kernel_rfl) (by simp) ?_
                  refine AllE.cons rfl (fun K hK => ?_) AllE.nil
                  simp only [List.getElem_toArray, List.getElem_cons_succ, List.getElem_cons_zero]
                  go_simp
                  refine hK.out _ _ ⟨fun h => absurd h (by simp), Below.setCell HBL4.out (Nat.le_refl _) _⟩ (fun _ => ?_)
                  clear hK K
                  (try simp only [Act.put, List.setIfInBounds_toArray, List.set_cons_zero, List.set_cons_succ])
                  refine wpE_all (rs := [16]) (by kernel_rfl) (by simp) ?_
                  refine AllE.cons rfl (fun K hK => ?_) AllE.nil
                  simp only [List.getElem_toArray, List.getElem_cons_succ, List.getElem_cons_zero]
                  go_simp
                  refine hK.out _ _ ⟨fun h => absurd h (by simp), Below.setCell HBL4.out (Nat.le_refl _) _⟩ (fun _ => ?_)
                  clear hK K
                  (try simp only [Act.put, List.setIfInBounds_toArray, List.set_cons_zero, List.set_cons_succ])
                  refine wpE_all (rs := [17]) (by kernel_rfl) (by simp) ?_
                  refine AllE.cons rfl (fun K hK => ?_) AllE.nil
                  simp only [List.getElem_toArray, List.getElem_cons_succ, List.getElem_cons_zero]
                  go_simp
                  refine hK.out _ _ ⟨fun h => absurd h (by simp), Below.setCell (Below.setCell HBL4.out (Nat.le_refl _) _) (Nat.le_refl _) _⟩ (fun _ => ?_)
                  clear hK K
                  (try simp only [Act.put, List.setIfInBounds_toArray, List.set_cons_zero, List.set_cons_succ])
                  refine wpE_done (by kernel_rfl) ?_ _
                  have hx6 : Below w2.heap.size w5 ((w4.setCell ⟨w2.heap.size, 1, none⟩ (.slice A3 (rem.length + 1) c3)).setCell ⟨w2.heap.size, 0, none⟩ (.slice A4 (add.length + 1) c4)) := Below.setCell (Below.setCell HBL4.out (Nat.le_refl _) _) (Nat.le_refl _) _
                  have hb6 : Bk ((w4.setCell ⟨w2.heap.size, 1, none⟩ (.slice A3 (rem.length + 1) c3)).setCell ⟨w2.heap.size, 0, none⟩ (.slice A4 (add.length + 1) c4)) w2.heap.size 59 #[.slice A4 (add.length + 1) c4, .slice A3 (rem.length + 1) c3] := by have := (HB4.out.set 1 (.slice A3 (rem.length + 1) c3)).set 0 (.slice A4 (add.length + 1) c4); simpa using this
                  have HS6 := Lib.hid (HST5.out.both HEQ.out HXY.out ((HO4.out.far (Nat.lt_succ_self _) _).far (Nat.lt_succ_self _) _) ((HR4.out.far (Nat.lt_succ_self _) _).far (Nat.lt_succ_self _) _) HD4.out.symm hb6 hx6)
                  have HX6 := Lib.hid (Ext.trans' HX5.out hx6)
                  clear hx6 hb6 p4 HBL4 HD4 HO4 HR4 HB4 HX4 hS0 hT0 HBL3 HDR HOR HR HBR HX3
                  generalize w4.setCell ⟨w2.heap.size, 1, none⟩ (.slice A3 (rem.length + 1) c3) = w7 at HS6 HX6 ⊢
                  generalize w7.setCell ⟨w2.heap.size, 0, none⟩ (.slice A4 (add.length + 1) c4) = w8 at HS6 HX6 ⊢
                  have k1 : decide (0 < at_.length + 1) = true := by simp
                  have k2 : decide ((0 : Int) < (at_.length : Int) + 1) = true := by rw [decide_eq_true_eq]; omega
                  have k4 : (1 : Int) ≤ (at_.length : Int) + 1 := by omega
                  have k5 : ((at_.length : Int) + 1 == 0) = false := by simp; omega
                  have j1 : decide (0 < bt.length + 1) = true := by simp
                  have j2 : decide ((0 : Int) < (bt.length : Int) + 1) = true := by rw [decide_eq_true_eq]; omega
                  have j4 : (1 : Int) ≤ (bt.length : Int) + 1 := by omega
                  have j5 : ((bt.length : Int) + 1 == 0) = false := by simp; omega
                  go_wp2_with fail
                  go_quiet (fail)
                  simp only [Exit.inBlock]; unfold QQ; simp only [Exit.then]; refine ⟨?_, ?lt⟩; (repeat apply Exists.intro); refine ⟨?rel, rfl⟩
                  case rel => exact ⟨_, _, _, _, _, _, _, _, at_, bt, rem ++ [x], add ++ [y], rfl, rfl, HS6.out.drewN _, HX6.out.drewN _⟩
                  case lt => exact chgM_lt (Nat.lt_succ_self _) (Nat.le_succ _)
                exact AllE.nil
              refine AllE.cons rfl (fun K hK => ?_) ?_
              · simp only [List.getElem_toArray, List.getElem_cons_succ, List.getElem_cons_zero]
                go_simp
                refine hK.out _ _ ⟨fun _ => hS0.alloc _, Below.alloc hT0 (Nat.le_of_lt hX5) _⟩ (fun _ => ?_)
                clear hK K
                (try simp only [Act.put, List.setIfInBounds_toArray, List.set_cons_zero, List.set_cons_succ])
                refine wpE_all (rs := [5]) (by kernel_rfl) (by simp) ?_
                refine AllE.cons rfl (fun K hK => ?_) ?_
                · simp only [List.getElem_toArray, List.getElem_cons_succ, List.getElem_cons_zero]
                  go_simp
                  refine hK.out _ _ ⟨fun _ => (hS0.alloc _).alloc _, Below.alloc (Below.alloc hT0 (Nat.le_of_lt hX5) _) (by simp; omega) _⟩ (fun _ => ?_)
                  clear hK K
                  (try simp only [Act.put, List.setIfInBounds_toArray, List.set_cons_zero, List.set_cons_succ])
                  refine wpE_all (rs := [6]) (by kernel_rfl) (by simp) ?_
                  refine AllE.cons rfl (fun K hK => ?_) AllE.nil
                  simp only [List.getElem_toArray, List.getElem_cons_succ, List.getElem_cons_zero]
                  have hap := app_gen HST5.out.orem HST5.out.oadd HST5.out.dis HST5.out.bk (by omega) x ((w5.drew.alloc (.cells #[.int .i64 y.en, .string y.kd, .int .i64 y.day, .int .i64 y.byy, .int .i64 y.too, .int .i64 y.am] 24)).alloc (.cells #[.int .i64 x.en, .string x.kd, .int .i64 x.day, .int .i64 x.byy, .int .i64 x.too, .int .i64 x.am] 24)) (some ⟨w5.heap.size + 1, 0, none⟩) (((Ext.refl w5).drew.alloc _).alloc _) ⟨_, SF.one1 w5.drew x 24 _⟩
                  refine step_append_tm (s := .tmp 32) (x := .tmp 36) rfl rfl rfl rfl rfl hap ?_
                  clear hap
                  rintro v' w3 ⟨A3, c3, rfl, hr3, ho3, hd3, hb3, hx3, hn3⟩
                  have HSZ := Lib.hid (SF.keep' (SF.one0 w5.drew y 24 _) hn3 (Nat.le_refl _) (by simp; omega))
                  have HBR := Lib.hid hb3; have HX3 := Lib.hid hx3; have HR := Lib.hid hr3; have HOR := Lib.hid ho3; have HDR := Lib.hid hd3
                  have HBL3 := Lib.hid (Below.mono hx3 (Nat.le_succ _))
                  clear hb3 hx3 hr3 ho3 hd3 hn3
                  refine hK.out _ _ ⟨fun _ => HBR.out, HBL3.out⟩ (fun _ => ?_)
                  clear hK K
                  (try simp only [Act.put, List.setIfInBounds_toArray, List.set_cons_zero, List.set_cons_succ])
                  refine wpE_takeT (i := 14) (d := some 45) (v := .pointer (some ⟨w2.heap.size, 1, none⟩)) rfl rfl (by kernel_rfl) (by kernel_rfl) (by kernel_rfl) rfl (fun _ _ _ h => h) (by rfl) ?hy13 HBL3.out ?go13
                  case hy13 =>
                    intro w9 hT9
                    clear hT9
                    go_simp
                  (try simp only [Act.put, List.setIfInBounds_toArray, List.set_cons_zero, List.set_cons_succ])
                  refine wpE_all (rs := [13]) (by kernel_rfl) (by simp) ?_
                  refine AllE.cons rfl (fun K hK => ?_) AllE.nil
                  simp only [List.getElem_toArray, List.getElem_cons_succ, List.getElem_cons_zero]
                  skip
                  have hap := app_gen HOR.out HR.out HDR.out.symm HBR.out (by omega) y w3 (some ⟨w5.heap.size, 0, none⟩) (Ext.refl _) ⟨_, HSZ.out⟩
                  refine step_append_tm (s := .tmp 39) (x := .tmp 43) rfl rfl rfl rfl rfl hap ?_
                  clear hap
                  rintro v' w4 ⟨A4, c4, rfl, hr4, ho4, hd4, hb4, hx4, hn4⟩
                  have HB4 := Lib.hid hb4; have HX4 := Lib.hid hx4; have HR4 := Lib.hid hr4; have HO4 := Lib.hid ho4; have HD4 := Lib.hid hd4
                  have HBL4 := Lib.hid (Below.trans HBL3.out (Below.mono hx4 (Nat.le_succ _)))
                  obtain ⟨q4, p4⟩ := hb4.cells
                  clear hb4 hx4 hr4 ho4 hd4 hn4
                  refine hK.out _ _ ⟨fun _ => HB4.out, HBL4.out⟩ (fun _ => ?_)
                  clear hK K
                  (try simp only [Act.put, List.setIfInBounds_toArray, List.set_cons_zero, List.set_cons_succ])
                  refine wpE_all (rs := [15]) (by kernel_rfl) (by simp) ?_
                  refine AllE.cons rfl (fun K hK => ?_) AllE.nil
                  simp only [List.getElem_toArray, List.getElem_cons_succ, List.getElem_cons_zero]
                  go_simp
                  refine hK.out _ _ ⟨fun h => absurd h (by simp), Below.setCell HBL4.out (Nat.le_refl _) _⟩ (fun _ => ?_)
                  clear hK K
                  (try simp only [Act.put, List.setIfInBounds_toArray, List.set_cons_zero, List.set_cons_succ])
                  refine wpE_all (rs := [16]) (by kernel_rfl) (by simp) ?_
                  refine AllE.cons rfl (fun K hK => ?_) AllE.nil
                  simp only [List.getElem_toArray, List.getElem_cons_succ, List.getElem_cons_zero]
                  go_simp
                  refine hK.out _ _ ⟨fun h => absurd h (by simp), Below.setCell HBL4.out (Nat.le_refl _) _⟩ (fun _ => ?_)
                  clear hK K
                  (try simp only [Act.put, List.setIfInBounds_toArray, List.set_cons_zero, List.set_cons_succ])
                  refine wpE_all (rs := [17]) (by kernel_rfl) (by simp) ?_
                  refine AllE.cons rfl (fun K hK => ?_) AllE.nil
                  simp only [List.getElem_toArray, List.getElem_cons_succ, List.getElem_cons_zero]
                  go_simp
                  refine hK.out _ _ ⟨fun h => absurd h (by simp), Below.setCell (Below.setCell HBL4.out (Nat.le_refl _) _) (Nat.le_refl _) _⟩ (fun _ => ?_)
                  clear hK K
                  (try simp only [Act.put, List.setIfInBounds_toArray, List.set_cons_zero, List.set_cons_succ])
                  refine wpE_done (by kernel_rfl) ?_ _
                  have hx6 : Below w2.heap.size w5 ((w4.setCell ⟨w2.heap.size, 1, none⟩ (.slice A3 (rem.length + 1) c3)).setCell ⟨w2.heap.size, 0, none⟩ (.slice A4 (add.length + 1) c4)) := Below.setCell (Below.setCell HBL4.out (Nat.le_refl _) _) (Nat.le_refl _) _
                  have hb6 : Bk ((w4.setCell ⟨w2.heap.size, 1, none⟩ (.slice A3 (rem.length + 1) c3)).setCell ⟨w2.heap.size, 0, none⟩ (.slice A4 (add.length + 1) c4)) w2.heap.size 59 #[.slice A4 (add.length + 1) c4, .slice A3 (rem.length + 1) c3] := by have := (HB4.out.set 1 (.slice A3 (rem.length + 1) c3)).set 0 (.slice A4 (add.length + 1) c4); simpa using this
                  have HS6 := Lib.hid (HST5.out.both HEQ.out HXY.out ((HO4.out.far (Nat.lt_succ_self _) _).far (Nat.lt_succ_self _) _) ((HR4.out.far (Nat.lt_succ_self _) _).far (Nat.lt_succ_self _) _) HD4.out.symm hb6 hx6)
                  have HX6 := Lib.hid (Ext.trans' HX5.out hx6)
                  clear hx6 hb6 p4 HBL4 HD4 HO4 HR4 HB4 HX4 hS0 hT0 HBL3 HDR HOR HR HBR HX3
                  generalize w4.setCell ⟨w2.heap.size, 1, none⟩ (.slice A3 (rem.length + 1) c3) = w7 at HS6 HX6 ⊢
                  generalize w7.setCell ⟨w2.heap.size, 0, none⟩ (.slice A4 (add.length + 1) c4) = w8 at HS6 HX6 ⊢
                  have k1 : decide (0 < at_.length + 1) = true := by simp
                  have k2 : decide ((0 : Int) < (at_.length : Int) + 1) = true := by rw [decide_eq_true_eq]; omega
                  have k4 : (1 : Int) ≤ (at_.length : Int) + 1 := by omega
                  have k5 : ((at_.length : Int) + 1 == 0) = false := by simp; omega
                  have j1 : decide (0 < bt.length + 1) = true := by simp
                  have j2 : decide ((0 : Int) < (bt.length : Int) + 1) = true := by rw [decide_eq_true_eq]; omega
                  have j4 : (1 : Int) ≤ (bt.length : Int) + 1 := by omega
                  have j5 : ((bt.length : Int) + 1 == 0) = false := by simp; omega
                  go_wp2_with fail
                  go_quiet (fail)
                  simp only [Exit.inBlock]; unfold QQ; simp only [Exit.then]; refine ⟨?_, ?lt⟩; (repeat apply Exists.intro); refine ⟨?rel, rfl⟩
                  case rel => exact ⟨_, _, _, _, _, _, _, _, at_, bt, rem ++ [x], add ++ [y], rfl, rfl, HS6.out.drewN _, HX6.out.drewN _⟩
                  case lt => exact chgM_lt (Nat.lt_succ_self _) (Nat.le_succ _)
                exact AllE.nil
              exact AllE.nil
            · rw [hd] at hcmp
              have HXY := Lib.hid (of_decide_eq_true hd)
              clear hd
              go_wp2
              go_quiet (fail)
              go_wp2_with fail
              go_quiet (fail)
              go_wp2_with fail
              go_quiet (fail)
              go_wp2_with fail
              clear hcmp q1 p1 q1a q1b p1b p1a e0 e1 e2 e3 e4 e5 f0 f1 f2 f3 f4 f5
              go_quiet (fail)
              simp only [Exit.inBlock]; rename_i QQ nq7 nq8 nq9; unfold QQ; simp only [Exit.then]; refine ⟨?_, ?lt⟩; (repeat apply Exists.intro); refine ⟨?rel, rfl⟩
              case rel => exact ⟨_, _, _, _, _, _, _, _, at_, bt, rem, add, rfl, rfl, ((((HST.out.skip2 HXY.out).drewN _).drewN _).drewN _).drewN _, (((HX.out.drewN _).drewN _).drewN _).drewN _⟩
              case lt => exact chgM_lt (Nat.lt_succ_self _) (Nat.le_succ _)
end Go.Proofs.YtngjghblpbdciaaGreatDoor.Fa
