/- Memory predicates that the walks of this claim share: a slice value whose elements, each of 'sz' cells, read as a given function of index and field. -/
import Derived.Test.YthjjdeabfnlbjaaPlain
import Derived.WalkKit
import Derived.WalkSpells
import Derived.WalkSmall
import Derived.Below
namespace Go.Proofs.Ythjjdeabfnlbjaa
open Go Go.RowKit

def Fc.cells (f : Fc) : List Value := [.int .i64 f.en, .string f.kd, .int .i64 f.day, .int .i64 f.byy, .int .i64 f.too, .int .i64 f.am]
def Vr.cells (v : Vr) : List Value := [.int .i64 v.op, .bool v.st, .int .i64 v.fc.en, .string v.fc.kd, .int .i64 v.fc.day, .int .i64 v.fc.byy, .int .i64 v.fc.too, .int .i64 v.fc.am]
def Fc.val (f : Fc) : Value := .agg #[.int .i64 f.en, .string f.kd, .int .i64 f.day, .int .i64 f.byy, .int .i64 f.too, .int .i64 f.am]
def Vr.val (v : Vr) : Value := .agg #[.int .i64 v.op, .bool v.st, .int .i64 v.fc.en, .string v.fc.kd, .int .i64 v.fc.day, .int .i64 v.fc.byy, .int .i64 v.fc.too, .int .i64 v.fc.am]

/-- The slice's address A leads, where there is an element, below block B, and element i lies there as 'cs i' says, each of sz cells. -/
def Sl (w : World) (B : Nat) (A : Option Addr) (n sz : Nat) (cs : Nat → List Value) : Prop :=
  0 < n → ∃ b off, A = some ⟨b, off, none⟩ ∧ b < B ∧ ∀ i, i < n → ∀ j u, (cs i)[j]? = some u → w.cell? ⟨b, off + i * sz + j, none⟩ = some u

/-- A slice of versions. -/
def SV (w : World) (B : Nat) (A : Option Addr) (n : Nat) (l : List Vr) : Prop := l.length = n ∧ Sl w B A n 8 fun i => (vat l i).cells
/-- A slice of facts. -/
def SF (w : World) (B : Nat) (A : Option Addr) (n : Nat) (l : List Fc) : Prop := l.length = n ∧ Sl w B A n 6 fun i => (fat l i).cells

theorem Sl.keep {w w' : World} {B : Nat} {A : Option Addr} {n sz : Nat} {cs : Nat → List Value} (h : Sl w B A n sz cs)
    (hk : ∀ p : Addr, p.block < B → w'.cell? p = w.cell? p) : Sl w' B A n sz cs := fun hn => by
  obtain ⟨b, off, e, hb, hc⟩ := h hn
  exact ⟨b, off, e, hb, fun i hi j u hu => (hk _ hb).trans (hc i hi j u hu)⟩
theorem Sl.below {w w' : World} {B B' : Nat} {A : Option Addr} {n sz : Nat} {cs : Nat → List Value} (h : Sl w B A n sz cs) (hb : Below B' w w') (hB : B ≤ B') : Sl w' B A n sz cs :=
  h.keep fun _ hp => hb.cell (Nat.lt_of_lt_of_le hp hB)
theorem Sl.more {w : World} {B B' : Nat} {A : Option Addr} {n sz : Nat} {cs : Nat → List Value} (h : Sl w B A n sz cs) (hB : B ≤ B') : Sl w B' A n sz cs := fun hn => by
  obtain ⟨b, off, e, hb, hc⟩ := h hn
  exact ⟨b, off, e, Nat.lt_of_lt_of_le hb hB, hc⟩
/-- The eight cells of one version. -/
theorem SV.at_ {w : World} {B : Nat} {A : Option Addr} {n : Nat} {l : List Vr} (h : SV w B A n l) {k : Nat} (hk : k < n) :
    ∃ b off, A = some ⟨b, off, none⟩ ∧ b < B ∧ (w.cell? ⟨b, off + k * 8, none⟩ = some (.int .i64 (vat l k).op) ∧ w.cell? ⟨b, off + k * 8 + 1, none⟩ = some (.bool (vat l k).st) ∧
      w.cell? ⟨b, off + k * 8 + 2, none⟩ = some (.int .i64 (vat l k).fc.en) ∧ w.cell? ⟨b, off + k * 8 + 3, none⟩ = some (.string (vat l k).fc.kd) ∧
      w.cell? ⟨b, off + k * 8 + 4, none⟩ = some (.int .i64 (vat l k).fc.day) ∧ w.cell? ⟨b, off + k * 8 + 5, none⟩ = some (.int .i64 (vat l k).fc.byy) ∧
      w.cell? ⟨b, off + k * 8 + 6, none⟩ = some (.int .i64 (vat l k).fc.too) ∧ w.cell? ⟨b, off + k * 8 + 7, none⟩ = some (.int .i64 (vat l k).fc.am)) := by
  obtain ⟨b, off, e, hb, hc⟩ := h.2 (by omega)
  have c := hc k hk
  exact ⟨b, off, e, hb, c 0 _ rfl, c 1 _ rfl, c 2 _ rfl, c 3 _ rfl, c 4 _ rfl, c 5 _ rfl, c 6 _ rfl, c 7 _ rfl⟩
/-- The six cells of one fact. -/
theorem SF.at_ {w : World} {B : Nat} {A : Option Addr} {n : Nat} {l : List Fc} (h : SF w B A n l) {k : Nat} (hk : k < n) :
    ∃ b off, A = some ⟨b, off, none⟩ ∧ b < B ∧ (w.cell? ⟨b, off + k * 6, none⟩ = some (.int .i64 (fat l k).en) ∧ w.cell? ⟨b, off + k * 6 + 1, none⟩ = some (.string (fat l k).kd) ∧
      w.cell? ⟨b, off + k * 6 + 2, none⟩ = some (.int .i64 (fat l k).day) ∧ w.cell? ⟨b, off + k * 6 + 3, none⟩ = some (.int .i64 (fat l k).byy) ∧
      w.cell? ⟨b, off + k * 6 + 4, none⟩ = some (.int .i64 (fat l k).too) ∧ w.cell? ⟨b, off + k * 6 + 5, none⟩ = some (.int .i64 (fat l k).am)) := by
  obtain ⟨b, off, e, hb, hc⟩ := h.2 (by omega)
  have c := hc k hk
  exact ⟨b, off, e, hb, c 0 _ rfl, c 1 _ rfl, c 2 _ rfl, c 3 _ rfl, c 4 _ rfl, c 5 _ rfl⟩

/-- w' is w with new blocks alone: every block that was there is as it was. A name of its own, so that no simp opens it. -/
def Ext (w w' : World) : Prop := Below w.heap.size w w'
theorem Ext.refl (w : World) : Ext w w := Below.refl _ _
theorem Ext.trans {a b c : World} (h : Ext a b) (k : Ext b c) : Ext a c := Below.trans h (Below.mono k h.size)
theorem Ext.alloc {a w : World} (h : Ext a w) (o : Obj) : Ext a (w.alloc o) := Below.alloc h h.size o
theorem Ext.drewN {a w : World} (h : Ext a w) (n : Nat) : Ext a (w.drewN n) := below_drewN h n
theorem Ext.drew {a w : World} (h : Ext a w) : Ext a w.drew := Below.drew h
theorem Ext.setCell {a w : World} (h : Ext a w) {p : Addr} (hp : a.heap.size ≤ p.block) (u : Value) : Ext a (w.setCell p u) := Below.setCell h hp u
theorem Ext.grown {a w w' : World} {row : Option Nat} (h : Ext a w) (hg : w.grownBy w' row) (hr : ∀ k, row = some k → a.heap.size ≤ k) : Ext a w' := Below.grown h hg h.size hr
theorem Ext.of_below {a w : World} {B : Nat} (h : Below B a w) (hB : a.heap.size ≤ B) : Ext a w := h.mono hB
theorem Ext.lt {a w : World} (h : Ext a w) : a.heap.size ≤ w.heap.size := h.size
theorem Sl.ext {w w' : World} {B : Nat} {A : Option Addr} {n sz : Nat} {cs : Nat → List Value} (h : Sl w B A n sz cs) (hx : Ext w w') (hB : B ≤ w.heap.size) : Sl w' B A n sz cs := h.below hx hB
theorem SV.take {w : World} {B : Nat} {A : Option Addr} {n : Nat} {l : List Vr} (h : SV w B A n l) {k : Nat} (hk : k ≤ n) : SV w B A k (l.take k) := by
  obtain ⟨rfl, h⟩ := h
  refine ⟨by simp; omega, fun h0 => ?_⟩
  obtain ⟨b, off, e, hb, hc⟩ := h (by omega)
  refine ⟨b, off, e, hb, fun i hi j u hu => hc i (by omega) j u ?_⟩
  have : vat (l.take k) i = vat l i := by simp [vat, hi]
  simpa only [this] using hu
theorem SV.ext {w w' : World} {B : Nat} {A : Option Addr} {n : Nat} {l : List Vr} (h : SV w B A n l) (hx : Ext w w') (hB : B ≤ w.heap.size) : SV w' B A n l := ⟨h.1, Sl.ext h.2 hx hB⟩
theorem SF.ext {w w' : World} {B : Nat} {A : Option Addr} {n : Nat} {l : List Fc} (h : SF w B A n l) (hx : Ext w w') (hB : B ≤ w.heap.size) : SF w' B A n l := ⟨h.1, Sl.ext h.2 hx hB⟩
theorem SV.lift {w w' : World} {B : Nat} {A : Option Addr} {n : Nat} {l : List Vr} (h : SV w B A n l) (hB : B ≤ w.heap.size) (hx : Ext w w') : SV w' w'.heap.size A n l := ⟨h.1, Sl.more (Sl.ext h.2 hx hB) (Nat.le_trans hB hx.lt)⟩
theorem SV.more {w : World} {B B' : Nat} {A : Option Addr} {n : Nat} {l : List Vr} (h : SV w B A n l) (hB : B ≤ B') : SV w B' A n l := ⟨h.1, Sl.more h.2 hB⟩
theorem SF.lift {w w' : World} {B : Nat} {A : Option Addr} {n : Nat} {l : List Fc} (h : SF w B A n l) (hB : B ≤ w.heap.size) (hx : Ext w w') : SF w' w'.heap.size A n l := ⟨h.1, Sl.more (Sl.ext h.2 hx hB) (Nat.le_trans hB hx.lt)⟩
theorem SF.more {w : World} {B B' : Nat} {A : Option Addr} {n : Nat} {l : List Fc} (h : SF w B A n l) (hB : B ≤ B') : SF w B' A n l := ⟨h.1, Sl.more h.2 hB⟩
theorem Ext.cells {w w1 : World} (hb : Ext w w1) : (∀ b o, b < w.heap.size → w1.cell? ⟨b, o, none⟩ = w.cell? ⟨b, o, none⟩) ∧ (∀ b o, b < w.heap.size → w1.frozen? ⟨b, o, none⟩ = w.frozen? ⟨b, o, none⟩) :=
  ⟨fun b o h => hb.cell (p := ⟨b, o, none⟩) h, fun b o h => hb.frozen (p := ⟨b, o, none⟩) h⟩
end Go.Proofs.Ythjjdeabfnlbjaa
