/- Plain lists: what the reference of package facts computes, and what the program computes, and that both agree on valid lists. Nothing of the program stands here. -/
import Derived.WalkKit
import Derived.WalkSpells
import Derived.WalkSmall
import Derived.Below
import Derived.Test.YtngjghblpbdciaaGreatDoorChecked
import Derived.Maps.AppendAt
import Derived.Lib.Hide
import Derived.Deep.QuietTactic
import Derived.BigQuiet
import Derived.WalkLawsBesides
import Derived.BigGuardPart
import Derived.Maps.RangeWalk
import Derived.Maps.OwnOps
import Derived.Maps.Own
import Derived.Deep.Draws
import Derived.Deep.RegionLaw
import Derived.Deep.DeepMust
import Derived.Deep.DeepCutAuto
import Derived.StillTailTactics
namespace Go.Proofs.YtngjghblpbdciaaGreatDoor.Fa

/-- A fact of package facts, as plain data. -/
structure Fc where
  en : Int
  kd : ByteArray
  day : Int
  byy : Int
  too : Int
  am : Int

/-- A version of a fact. -/
structure Vr where
  op : Int
  st : Bool
  fc : Fc

instance : Inhabited Fc := ⟨⟨0, ByteArray.empty, 0, 0, 0, 0⟩⟩
instance : Inhabited Vr := ⟨⟨0, false, default⟩⟩
instance : DecidableEq Fc := fun a b => decidable_of_iff (a.en = b.en ∧ a.kd = b.kd ∧ a.day = b.day ∧ a.byy = b.byy ∧ a.too = b.too ∧ a.am = b.am) (by cases a; cases b; simp)
instance : DecidableEq Vr := fun a b => decidable_of_iff (a.op = b.op ∧ a.st = b.st ∧ a.fc = b.fc) (by cases a; cases b; simp)

def inB (n lo hi : Int) : Bool := decide (lo ≤ n) && decide (n ≤ hi)
def letB (c : UInt8) : Bool := decide (97 ≤ (c.toNat : Int)) && decide ((c.toNat : Int) ≤ 122)
def digB (c : UInt8) : Bool := decide (48 ≤ (c.toNat : Int)) && decide ((c.toNat : Int) ≤ 57)
def wchB (c : UInt8) : Bool := letB c || digB c
def wordB (s : ByteArray) : Bool := decide (0 < s.size) && decide (s.size ≤ 12) && letB (s.data.toList.headD 0) && s.data.toList.all wchB
def okF (f : Fc) : Bool := inB f.en 0 65535 && (wordB f.kd && (inB f.day 0 3652058 && (inB f.byy 0 63 && (inB f.too 0 63 && inB f.am (-2147483647) 2147483647))))

/-- Element k; a name of its own, so that no simp takes it apart. -/
def vat (l : List Vr) (k : Nat) : Vr := l.getD k default
def fat (l : List Fc) (k : Nat) : Fc := l.getD k default

theorem vat_eq {l : List Vr} {k : Nat} (h : k < l.length) : l[k]? = some (vat l k) := by simp [vat, h]
theorem fat_eq {l : List Fc} {k : Nat} (h : k < l.length) : l[k]? = some (fat l k) := by simp [fat, h]

/-- The last version of an entry. -/
def lastOf : List Vr → Int → Option Vr
  | [], _ => none
  | v :: l, en => match lastOf l en with | some u => some u | none => if v.fc.en = en then some v else none

theorem lastOf_append (a b : List Vr) (en : Int) : lastOf (a ++ b) en = match lastOf b en with | some u => some u | none => lastOf a en := by
  induction a with
  | nil => simp only [List.nil_append, lastOf]; cases lastOf b en <;> rfl
  | cons v a ih =>
    simp only [List.cons_append, lastOf, ih]
    cases lastOf b en <;> rfl
theorem lastOf_snoc (a : List Vr) (v : Vr) (en : Int) : lastOf (a ++ [v]) en = if v.fc.en = en then some v else lastOf a en := by
  rw [lastOf_append]; simp only [lastOf]
  by_cases h : v.fc.en = en <;> simp [h]
theorem take_vat {l : List Vr} {k : Nat} (h : k < l.length) : l.take (k + 1) = l.take k ++ [vat l k] := by
  rw [List.take_succ_eq_append_getElem h]; simp [vat, h]
theorem lastOf_some {l : List Vr} {en : Int} {v : Vr} (h : lastOf l en = some v) : v ∈ l ∧ v.fc.en = en := by
  induction l with
  | nil => cases h
  | cons u l ih =>
    simp only [lastOf] at h
    cases hl : lastOf l en with
    | some x => rw [hl] at h; simp only at h; cases h; exact ⟨.tail _ (ih hl).1, (ih hl).2⟩
    | none =>
      rw [hl] at h; simp only at h
      by_cases hu : u.fc.en = en
      · rw [if_pos hu] at h; cases h; exact ⟨.head _, hu⟩
      · rw [if_neg hu] at h; cases h

/-- The error of a version behind others. -/
def wrongOf (l : List Vr) (v : Vr) : Int :=
  if v.op < 0 then 5
  else if v.st = false ∧ okF v.fc = false then 5
  else if inB v.fc.en 0 65535 = false then 5
  else if 0 < l.length ∧ v.op < (vat l (l.length - 1)).op then 12
  else if v.st = true ∧ (match lastOf l v.fc.en with | some u => u.st | none => true) = true then 3
  else 0

theorem wrongOf_end {l : List Vr} {v : Vr} (h1 : ¬ v.op < 0) (h2 : ¬ (v.st = false ∧ okF v.fc = false)) (h3 : inB v.fc.en 0 65535 = true) (h4 : ¬ (0 < l.length ∧ v.op < (vat l (l.length - 1)).op)) :
    wrongOf l v = if v.st = true ∧ (match lastOf l v.fc.en with | some u => u.st | none => true) = true then 3 else 0 := by
  unfold wrongOf; rw [if_neg h1, if_neg h2, if_neg (by simp [h3]), if_neg h4]
/-- The error of the first version that has one. -/
def checkAux (l : List Vr) : Nat → Int
  | 0 => 0
  | k + 1 => if checkAux l k ≠ 0 then checkAux l k else if k < l.length then wrongOf (l.take k) (vat l k) else 0
def checkOf (l : List Vr) : Int := checkAux l l.length

theorem check_step {l : List Vr} {k : Nat} (hk : k < l.length) (h0 : checkAux l k = 0) : checkAux l (k + 1) = wrongOf (l.take k) (vat l k) := by
  simp only [checkAux]; rw [if_neg (by simp [h0]), if_pos hk]
theorem check_keeps {l : List Vr} {k : Nat} (h0 : checkAux l k ≠ 0) : ∀ m, checkAux l (k + m) = checkAux l k
  | 0 => rfl
  | m + 1 => by
    have ih := check_keeps h0 m
    show checkAux l (k + m + 1) = _
    simp only [checkAux]; rw [ih, if_pos h0]
theorem check_stop {l : List Vr} {k : Nat} (hk : k < l.length) (h0 : checkAux l k = 0) (h1 : wrongOf (l.take k) (vat l k) ≠ 0) : checkOf l = wrongOf (l.take k) (vat l k) := by
  have e := check_step hk h0
  have := check_keeps (l := l) (k := k + 1) (by rw [e]; exact h1) (l.length - (k + 1))
  rw [show k + 1 + (l.length - (k + 1)) = l.length by omega, e] at this
  exact this

end Go.Proofs.YtngjghblpbdciaaGreatDoor.Fa

/- Memory predicates that the walks of this claim share: a slice value whose elements, each of 'sz' cells, read as a given function of index and field. -/
namespace Go.Proofs.YtngjghblpbdciaaGreatDoor.Fa
open Go Go.RowKit

def Fc.cells (f : Fc) : List Value := [.int .i64 f.en, .string f.kd, .int .i64 f.day, .int .i64 f.byy, .int .i64 f.too, .int .i64 f.am]
def Vr.cells (v : Vr) : List Value := [.int .i64 v.op, .bool v.st, .int .i64 v.fc.en, .string v.fc.kd, .int .i64 v.fc.day, .int .i64 v.fc.byy, .int .i64 v.fc.too, .int .i64 v.fc.am]
def Fc.val (f : Fc) : Value := .agg #[.int .i64 f.en, .string f.kd, .int .i64 f.day, .int .i64 f.byy, .int .i64 f.too, .int .i64 f.am]
def Vr.val (v : Vr) : Value := .agg #[.int .i64 v.op, .bool v.st, .int .i64 v.fc.en, .string v.fc.kd, .int .i64 v.fc.day, .int .i64 v.fc.byy, .int .i64 v.fc.too, .int .i64 v.fc.am]

/-- The slice's address A leads, where there is an element, below block B, and element i lies there as 'cs i' says, each of sz cells. -/
def Sl (w : World) (B : Nat) (A : Option Addr) (n sz : Nat) (cs : Nat → List Value) : Prop :=
  0 < n → ∃ b off, A = some ⟨b, off, none⟩ ∧ b < B ∧ ∀ i, i < n → ∀ j u, (cs i)[j]? = some u → w.cell? ⟨b, off + i * sz + j, none⟩ = some u

/-- A slice of versions. -/
def SV (w : World) (B : Nat) (A : Option Addr) (n : Nat) (l : List Vr) : Prop := l.length = n ∧ Sl w B A n 8 fun i => (vat l i).cells
/-- A slice of facts. -/
def SF (w : World) (B : Nat) (A : Option Addr) (n : Nat) (l : List Fc) : Prop := l.length = n ∧ Sl w B A n 6 fun i => (fat l i).cells

theorem Sl.keep {w w' : World} {B : Nat} {A : Option Addr} {n sz : Nat} {cs : Nat → List Value} (h : Sl w B A n sz cs)
    (hk : ∀ p : Addr, p.block < B → w'.cell? p = w.cell? p) : Sl w' B A n sz cs := fun hn => by
  obtain ⟨b, off, e, hb, hc⟩ := h hn
  exact ⟨b, off, e, hb, fun i hi j u hu => (hk _ hb).trans (hc i hi j u hu)⟩
theorem Sl.below {w w' : World} {B B' : Nat} {A : Option Addr} {n sz : Nat} {cs : Nat → List Value} (h : Sl w B A n sz cs) (hb : Below B' w w') (hB : B ≤ B') : Sl w' B A n sz cs :=
  h.keep fun _ hp => hb.cell (Nat.lt_of_lt_of_le hp hB)
theorem Sl.more {w : World} {B B' : Nat} {A : Option Addr} {n sz : Nat} {cs : Nat → List Value} (h : Sl w B A n sz cs) (hB : B ≤ B') : Sl w B' A n sz cs := fun hn => by
  obtain ⟨b, off, e, hb, hc⟩ := h hn
  exact ⟨b, off, e, Nat.lt_of_lt_of_le hb hB, hc⟩
/-- The eight cells of one version. -/
theorem SV.at_ {w : World} {B : Nat} {A : Option Addr} {n : Nat} {l : List Vr} (h : SV w B A n l) {k : Nat} (hk : k < n) :
    ∃ b off, A = some ⟨b, off, none⟩ ∧ b < B ∧ (w.cell? ⟨b, off + k * 8, none⟩ = some (.int .i64 (vat l k).op) ∧ w.cell? ⟨b, off + k * 8 + 1, none⟩ = some (.bool (vat l k).st) ∧
      w.cell? ⟨b, off + k * 8 + 2, none⟩ = some (.int .i64 (vat l k).fc.en) ∧ w.cell? ⟨b, off + k * 8 + 3, none⟩ = some (.string (vat l k).fc.kd) ∧
      w.cell? ⟨b, off + k * 8 + 4, none⟩ = some (.int .i64 (vat l k).fc.day) ∧ w.cell? ⟨b, off + k * 8 + 5, none⟩ = some (.int .i64 (vat l k).fc.byy) ∧
      w.cell? ⟨b, off + k * 8 + 6, none⟩ = some (.int .i64 (vat l k).fc.too) ∧ w.cell? ⟨b, off + k * 8 + 7, none⟩ = some (.int .i64 (vat l k).fc.am)) := by
  obtain ⟨b, off, e, hb, hc⟩ := h.2 (by omega)
  have c := hc k hk
  exact ⟨b, off, e, hb, c 0 _ rfl, c 1 _ rfl, c 2 _ rfl, c 3 _ rfl, c 4 _ rfl, c 5 _ rfl, c 6 _ rfl, c 7 _ rfl⟩
/-- The six cells of one fact. -/
theorem SF.at_ {w : World} {B : Nat} {A : Option Addr} {n : Nat} {l : List Fc} (h : SF w B A n l) {k : Nat} (hk : k < n) :
    ∃ b off, A = some ⟨b, off, none⟩ ∧ b < B ∧ (w.cell? ⟨b, off + k * 6, none⟩ = some (.int .i64 (fat l k).en) ∧ w.cell? ⟨b, off + k * 6 + 1, none⟩ = some (.string (fat l k).kd) ∧
      w.cell? ⟨b, off + k * 6 + 2, none⟩ = some (.int .i64 (fat l k).day) ∧ w.cell? ⟨b, off + k * 6 + 3, none⟩ = some (.int .i64 (fat l k).byy) ∧
      w.cell? ⟨b, off + k * 6 + 4, none⟩ = some (.int .i64 (fat l k).too) ∧ w.cell? ⟨b, off + k * 6 + 5, none⟩ = some (.int .i64 (fat l k).am)) := by
  obtain ⟨b, off, e, hb, hc⟩ := h.2 (by omega)
  have c := hc k hk
  exact ⟨b, off, e, hb, c 0 _ rfl, c 1 _ rfl, c 2 _ rfl, c 3 _ rfl, c 4 _ rfl, c 5 _ rfl⟩

/-- w' is w with new blocks alone: every block that was there is as it was. A name of its own, so that no simp opens it. -/
def Ext (w w' : World) : Prop := Below w.heap.size w w'
theorem Ext.refl (w : World) : Ext w w := Below.refl _ _
theorem Ext.trans {a b c : World} (h : Ext a b) (k : Ext b c) : Ext a c := Below.trans h (Below.mono k h.size)
theorem Ext.alloc {a w : World} (h : Ext a w) (o : Obj) : Ext a (w.alloc o) := Below.alloc h h.size o
theorem Ext.drewN {a w : World} (h : Ext a w) (n : Nat) : Ext a (w.drewN n) := below_drewN h n
theorem Ext.drew {a w : World} (h : Ext a w) : Ext a w.drew := Below.drew h
theorem Ext.setCell {a w : World} (h : Ext a w) {p : Addr} (hp : a.heap.size ≤ p.block) (u : Value) : Ext a (w.setCell p u) := Below.setCell h hp u
theorem Ext.grown {a w w' : World} {row : Option Nat} (h : Ext a w) (hg : w.grownBy w' row) (hr : ∀ k, row = some k → a.heap.size ≤ k) : Ext a w' := Below.grown h hg h.size hr
theorem Ext.lt {a w : World} (h : Ext a w) : a.heap.size ≤ w.heap.size := h.size
theorem Sl.ext {w w' : World} {B : Nat} {A : Option Addr} {n sz : Nat} {cs : Nat → List Value} (h : Sl w B A n sz cs) (hx : Ext w w') (hB : B ≤ w.heap.size) : Sl w' B A n sz cs := h.below hx hB
theorem SV.take {w : World} {B : Nat} {A : Option Addr} {n : Nat} {l : List Vr} (h : SV w B A n l) {k : Nat} (hk : k ≤ n) : SV w B A k (l.take k) := by
  obtain ⟨rfl, h⟩ := h
  refine ⟨by simp; omega, fun h0 => ?_⟩
  obtain ⟨b, off, e, hb, hc⟩ := h (by omega)
  refine ⟨b, off, e, hb, fun i hi j u hu => hc i (by omega) j u ?_⟩
  have : vat (l.take k) i = vat l i := by simp [vat, hi]
  simpa only [this] using hu
theorem SV.ext {w w' : World} {B : Nat} {A : Option Addr} {n : Nat} {l : List Vr} (h : SV w B A n l) (hx : Ext w w') (hB : B ≤ w.heap.size) : SV w' B A n l := ⟨h.1, Sl.ext h.2 hx hB⟩
theorem SF.ext {w w' : World} {B : Nat} {A : Option Addr} {n : Nat} {l : List Fc} (h : SF w B A n l) (hx : Ext w w') (hB : B ≤ w.heap.size) : SF w' B A n l := ⟨h.1, Sl.ext h.2 hx hB⟩
theorem SV.lift {w w' : World} {B : Nat} {A : Option Addr} {n : Nat} {l : List Vr} (h : SV w B A n l) (hB : B ≤ w.heap.size) (hx : Ext w w') : SV w' w'.heap.size A n l := ⟨h.1, Sl.more (Sl.ext h.2 hx hB) (Nat.le_trans hB hx.lt)⟩
theorem SV.more {w : World} {B B' : Nat} {A : Option Addr} {n : Nat} {l : List Vr} (h : SV w B A n l) (hB : B ≤ B') : SV w B' A n l := ⟨h.1, Sl.more h.2 hB⟩
theorem SF.lift {w w' : World} {B : Nat} {A : Option Addr} {n : Nat} {l : List Fc} (h : SF w B A n l) (hB : B ≤ w.heap.size) (hx : Ext w w') : SF w' w'.heap.size A n l := ⟨h.1, Sl.more (Sl.ext h.2 hx hB) (Nat.le_trans hB hx.lt)⟩
theorem SF.more {w : World} {B B' : Nat} {A : Option Addr} {n : Nat} {l : List Fc} (h : SF w B A n l) (hB : B ≤ B') : SF w B' A n l := ⟨h.1, Sl.more h.2 hB⟩
theorem Ext.cells {w w1 : World} (hb : Ext w w1) : (∀ b o, b < w.heap.size → w1.cell? ⟨b, o, none⟩ = w.cell? ⟨b, o, none⟩) ∧ (∀ b o, b < w.heap.size → w1.frozen? ⟨b, o, none⟩ = w.frozen? ⟨b, o, none⟩) :=
  ⟨fun b o h => hb.cell (p := ⟨b, o, none⟩) h, fun b o h => hb.frozen (p := ⟨b, o, none⟩) h⟩
end Go.Proofs.YtngjghblpbdciaaGreatDoor.Fa

/- Rows that a call has made itself: lists of versions and of facts in memory of the call's own; append. -/
namespace Go.Proofs.YtngjghblpbdciaaGreatDoor.Fa
open Go Go.RowKit

def vcells (l : List Vr) : List Value := l.flatMap Vr.cells
def fcells (l : List Fc) : List Value := l.flatMap Fc.cells

theorem vcells_len (l : List Vr) : (vcells l).length = l.length * 8 := by
  induction l with
  | nil => rfl
  | cons v l ih => simp only [vcells, List.flatMap_cons, List.length_append] at ih ⊢; rw [ih]; simp [Vr.cells]; omega
theorem fcells_len (l : List Fc) : (fcells l).length = l.length * 6 := by
  induction l with
  | nil => rfl
  | cons v l ih => simp only [fcells, List.flatMap_cons, List.length_append] at ih ⊢; rw [ih]; simp [Fc.cells]; omega
theorem vcells_at (l : List Vr) : ∀ (i : Nat), i < l.length → ∀ j, j < 8 → (vcells l)[i * 8 + j]? = (vat l i).cells[j]? := by
  induction l with
  | nil => intro i h; simp at h
  | cons v l ih =>
    intro i h j hj
    simp only [vcells, List.flatMap_cons]
    cases i with
    | zero => rw [List.getElem?_append_left (by simp [Vr.cells]; omega)]; simp [vat]
    | succ i =>
      rw [List.getElem?_append_right (by simp [Vr.cells]; omega)]
      have e : (i + 1) * 8 + j - (Vr.cells v).length = i * 8 + j := by simp [Vr.cells]; omega
      rw [e]
      exact ih i (by simpa using h) j hj
theorem fcells_at (l : List Fc) : ∀ (i : Nat), i < l.length → ∀ j, j < 6 → (fcells l)[i * 6 + j]? = (fat l i).cells[j]? := by
  induction l with
  | nil => intro i h; simp at h
  | cons v l ih =>
    intro i h j hj
    simp only [fcells, List.flatMap_cons]
    cases i with
    | zero => rw [List.getElem?_append_left (by simp [Fc.cells]; omega)]; simp [fat]
    | succ i =>
      rw [List.getElem?_append_right (by simp [Fc.cells]; omega)]
      have e : (i + 1) * 6 + j - (Fc.cells v).length = i * 6 + j := by simp [Fc.cells]; omega
      rw [e]
      exact ih i (by simpa using h) j hj
theorem vcells_one (l : List Vr) : ∀ u ∈ vcells l, u.oneCell' = true := by
  intro u hu
  obtain ⟨v, _, hv⟩ := List.mem_flatMap.1 hu
  simp only [Vr.cells, List.mem_cons, List.not_mem_nil, or_false] at hv
  rcases hv with rfl | rfl | rfl | rfl | rfl | rfl | rfl | rfl <;> rfl
theorem fcells_one (l : List Fc) : ∀ u ∈ fcells l, u.oneCell' = true := by
  intro u hu
  obtain ⟨v, _, hv⟩ := List.mem_flatMap.1 hu
  simp only [Fc.cells, List.mem_cons, List.not_mem_nil, or_false] at hv
  rcases hv with rfl | rfl | rfl | rfl | rfl | rfl <;> rfl

/-- The slice value v holds the versions l in a row of its own, in a block from base on. -/
def OV (w : World) (base : Nat) (v : Value) (l : List Vr) : Prop := w.ownsRow base 26 8 v l.length (vcells l)
def OF (w : World) (base : Nat) (v : Value) (l : List Fc) : Prop := w.ownsRow base 24 6 v l.length (fcells l)

theorem OV.nil (w : World) (base : Nat) : OV w base (.slice none 0 0) [] := World.ownsRow_nil w base 26 8
theorem OF.nil (w : World) (base : Nat) : OF w base (.slice none 0 0) [] := World.ownsRow_nil w base 24 6

theorem own_form {w : World} {base : Nat} {e : TypeId} {size : Nat} {v : Value} {n : Nat} {xs : List Value} (h : w.ownsRow base e size v n xs) :
    ∃ A c, v = .slice A n c ∧ n ≤ c ∧ (A = none ∧ n = 0 ∧ c = 0 ∨ ∃ g, A = some ⟨g, 0, none⟩ ∧ base ≤ g ∧ g < w.heap.size ∧ ∀ j u, xs[j]? = some u → w.cell? ⟨g, j, none⟩ = some u) := by
  rcases h.2 with ⟨rfl, rfl⟩ | ⟨g, cap, cur, rfl, hb, hg, hn, _, _, _⟩
  · exact ⟨none, 0, rfl, Nat.le_refl _, .inl ⟨rfl, rfl, rfl⟩⟩
  · refine ⟨some ⟨g, 0, none⟩, cap, rfl, hn, .inr ⟨g, rfl, hb, lt_of_block hg, fun j u hu => ?_⟩⟩
    have := h.cells (g := g) rfl j u hu
    rwa [Addr.add_lit, Nat.zero_add] at this
theorem OV.form {w : World} {base : Nat} {v : Value} {l : List Vr} (h : OV w base v l) : ∃ A c, v = .slice A l.length c ∧ l.length ≤ c ∧ SV w w.heap.size A l.length l := by
  obtain ⟨A, c, rfl, hc, hh⟩ := own_form h
  refine ⟨A, c, rfl, hc, rfl, fun h0 => ?_⟩
  rcases hh with ⟨_, hn, _⟩ | ⟨g, rfl, hb, hg, hx⟩
  · omega
  · refine ⟨g, 0, rfl, hg, fun i hi j u hu => ?_⟩
    have hj : j < 8 := (List.getElem?_eq_some_iff.1 hu).1
    have := hx (i * 8 + j) u ((vcells_at l i hi j hj).trans hu)
    simpa [Nat.add_assoc] using this
theorem OF.form {w : World} {base : Nat} {v : Value} {l : List Fc} (h : OF w base v l) : ∃ A c, v = .slice A l.length c ∧ l.length ≤ c ∧ SF w w.heap.size A l.length l := by
  obtain ⟨A, c, rfl, hc, hh⟩ := own_form h
  refine ⟨A, c, rfl, hc, rfl, fun h0 => ?_⟩
  rcases hh with ⟨_, hn, _⟩ | ⟨g, rfl, hb, hg, hx⟩
  · omega
  · refine ⟨g, 0, rfl, hg, fun i hi j u hu => ?_⟩
    have hj : j < 6 := (List.getElem?_eq_some_iff.1 hu).1
    have := hx (i * 6 + j) u ((fcells_at l i hi j hj).trans hu)
    simpa [Nat.add_assoc] using this

/-- append onto a row of the call's own: the source is nil, or its cells are known. -/
theorem run_append_src5 {P : Program} {w : World} {base : Nat} {t e : TypeId} {z : Value} {size bytes : Nat} (ht : P.underlying t = some (.slice e)) (hinfo : (P.info? e).map (fun i => (i.zero, i.size, i.bytes)) = some (some z, size, bytes))
    (hzs : z.cells.size = size) (hsz : 0 < size) {v : Value} {n : Nat} {xs : List Value} (hown : w.ownsRow base e size v n xs) {A : Option Addr} {m c : Nat} {news : List Value} (hl : news.length = m * size)
    (hA : 0 < m → ∃ b off, A = some ⟨b, off, none⟩ ∧ ∀ j u, news[j]? = some u → w.cell? ⟨b, off + j, none⟩ = some u) (h1 : ∀ u ∈ news, u.oneCell' = true)
    (h63 : n + m ≤ maxLen) (hbytes : (n + m) * bytes ≤ 140737488355328) (hbase : base ≤ w.heap.size) :
    ∃ A' c' w', (Builtin.append_ #[t, t] t #[v, .slice A m c]).run P w = .ok (.slice A' (n + m) c') w' ∧ w'.ownsRow base e size (.slice A' (n + m) c') (n + m) (xs ++ news) ∧ (∀ B, B ≤ base → Below B w w') ∧
      (∀ k, k < w.heap.size → (∀ a, v ≠ .slice (some ⟨k, 0, none⟩) n a) → w'.heap[k]? = w.heap[k]?) ∧ ((Value.slice A' (n + m) c').ownBlock = v.ownBlock ∨ (Value.slice A' (n + m) c').ownBlock = some w.heap.size) := by
  obtain ⟨i, hi, hz, hs, hb⟩ := info_parts hinfo
  have fin : ∀ v' w', w'.ownsRow base e size v' (n + m) (xs ++ news) → w.grownBy w' v.ownBlock → (v'.ownBlock = v.ownBlock ∨ v'.ownBlock = some w.heap.size) → (Builtin.append_ #[t, t] t #[v, .slice A m c]).run P w = .ok v' w' →
      ∃ A' c' w', (Builtin.append_ #[t, t] t #[v, .slice A m c]).run P w = .ok (.slice A' (n + m) c') w' ∧ w'.ownsRow base e size (.slice A' (n + m) c') (n + m) (xs ++ news) ∧ (∀ B, B ≤ base → Below B w w') ∧
      (∀ k, k < w.heap.size → (∀ a, v ≠ .slice (some ⟨k, 0, none⟩) n a) → w'.heap[k]? = w.heap[k]?) ∧ ((Value.slice A' (n + m) c').ownBlock = v.ownBlock ∨ (Value.slice A' (n + m) c').ownBlock = some w.heap.size) := by
    intro v' w' h2 h3 h9 h4
    obtain ⟨A', c', rfl, _, _⟩ := own_form h2
    refine ⟨A', c', w', h4, h2, fun B hB => (Below.refl B w).grown h3 (Nat.le_trans hB hbase) (fun k hk => Nat.le_trans hB (hown.lt k hk).1), fun k hk hne => h3.block k hk (fun e => ?_), h9⟩
    rcases hown.2 with ⟨rfl, _⟩ | ⟨g, cap, cur, rfl, _⟩
    · simp [Value.ownBlock] at e
    · simp only [Value.ownBlock, Option.some.injEq] at e
      subst e
      exact hne _ rfl
  by_cases h0 : 0 < m
  · obtain ⟨b, off, rfl, hc⟩ := hA h0
    obtain ⟨v', w', hr, h2, h3, _, h9⟩ := run_append_own_at (P := P) w base t t e i z size bytes ht hi hz hs hb hzs hsz v n xs hown ⟨b, off, none⟩ m c news hl (fun j u hu => by rw [Addr.add_lit]; exact hc j u hu) h1 h63 hbytes hbase
    exact fin v' w' h2 h3 h9 hr
  · obtain rfl : m = 0 := by omega
    obtain rfl : news = [] := List.eq_nil_of_length_eq_zero (by simpa using hl)
    rcases A with _ | ad
    · have hr : (Builtin.append_ #[t, t] t #[v, .slice none 0 c]).run P w = .ok v w := by
        rcases hown.2 with ⟨rfl, rfl⟩ | ⟨g, cap, cur, rfl, _, _, hnc, _⟩
        · simp [Builtin.append_, run_underlying ht, sizeOf, typeInfo, hi, Builtin.lenOf, Builtin.firstCells]
        · simp [Builtin.append_, run_underlying ht, sizeOf, typeInfo, hi, Builtin.lenOf, Builtin.firstCells, hnc, storeCells]
      exact fin v w (by simpa using hown) (World.grownBy.refl w _) (.inl rfl) hr
    · obtain ⟨v', w', hr, h2, h3, _, h9⟩ := run_append_own_at (P := P) w base t t e i z size bytes ht hi hz hs hb hzs hsz v n xs hown ad 0 c [] hl (fun j u hu => by simp at hu) h1 h63 hbytes hbase
      exact fin v' w' h2 h3 h9 hr

/-- append onto a row of the call's own: the source is nil, or its cells are known. -/
theorem run_append_src {P : Program} {w : World} {base : Nat} {t e : TypeId} {z : Value} {size bytes : Nat} (ht : P.underlying t = some (.slice e)) (hinfo : (P.info? e).map (fun i => (i.zero, i.size, i.bytes)) = some (some z, size, bytes))
    (hzs : z.cells.size = size) (hsz : 0 < size) {v : Value} {n : Nat} {xs : List Value} (hown : w.ownsRow base e size v n xs) {A : Option Addr} {m c : Nat} {news : List Value} (hl : news.length = m * size)
    (hA : 0 < m → ∃ b off, A = some ⟨b, off, none⟩ ∧ ∀ j u, news[j]? = some u → w.cell? ⟨b, off + j, none⟩ = some u) (h1 : ∀ u ∈ news, u.oneCell' = true)
    (h63 : n + m ≤ maxLen) (hbytes : (n + m) * bytes ≤ 140737488355328) (hbase : base ≤ w.heap.size) :
    ∃ A' c' w', (Builtin.append_ #[t, t] t #[v, .slice A m c]).run P w = .ok (.slice A' (n + m) c') w' ∧ w'.ownsRow base e size (.slice A' (n + m) c') (n + m) (xs ++ news) ∧ (∀ B, B ≤ base → Below B w w') ∧
      (∀ k, k < w.heap.size → (∀ a, v ≠ .slice (some ⟨k, 0, none⟩) n a) → w'.heap[k]? = w.heap[k]?) := by
  obtain ⟨A', c', w', h1, h2, h3, h4, _⟩ := run_append_src5 ht hinfo hzs hsz hown hl (c := c) hA h1 h63 hbytes hbase
  exact ⟨A', c', w', h1, h2, h3, h4⟩

theorem info32 : (Tryz.prog.info? 26).map (fun i => (i.zero, i.size, i.bytes)) = some (some (.agg #[.int .i64 0, .bool false, .int .i64 0, .string ⟨#[]⟩, .int .i64 0, .int .i64 0, .int .i64 0, .int .i64 0]), 8, 72) := by kernel_rfl
theorem info30 : (Tryz.prog.info? 24).map (fun i => (i.zero, i.size, i.bytes)) = some (some (.agg #[.int .i64 0, .string ⟨#[]⟩, .int .i64 0, .int .i64 0, .int .i64 0, .int .i64 0]), 6, 56) := by kernel_rfl

theorem vcells_append (a b : List Vr) : vcells (a ++ b) = vcells a ++ vcells b := by simp [vcells]
theorem fcells_append (a b : List Fc) : fcells (a ++ b) = fcells a ++ fcells b := by simp [fcells]

theorem OV.append {w : World} {base : Nat} {v : Value} {l : List Vr} (h : OV w base v l) {B : Nat} {A : Option Addr} {m : Nat} {l' : List Vr} (hs : SV w B A m l') (c : Nat) (hm : l.length + m ≤ 100000) (hbase : base ≤ w.heap.size) :
    ∃ A' c' w', (Builtin.append_ #[27, 27] 27 #[v, .slice A m c]).run Tryz.prog w = .ok (.slice A' (l.length + m) c') w' ∧ OV w' base (.slice A' (l.length + m) c') (l ++ l') ∧ (∀ B, B ≤ base → Below B w w') ∧
      (∀ k, k < w.heap.size → (∀ a, v ≠ .slice (some ⟨k, 0, none⟩) l.length a) → w'.heap[k]? = w.heap[k]?) := by
  obtain ⟨rfl, hs⟩ := hs
  obtain ⟨A', c', w', h1, h2, h3, h4⟩ := run_append_src (P := Tryz.prog) (t := 27) Tryz.underlying27 info32 rfl (by omega) h (A := A) (m := l'.length) (c := c) (news := vcells l') (vcells_len l')
    (fun h0 => by
      obtain ⟨b, off, rfl, _, hc⟩ := hs h0
      refine ⟨b, off, rfl, fun j u hu => ?_⟩
      have hj : j < l'.length * 8 := by rw [← vcells_len]; exact (List.getElem?_eq_some_iff.1 hu).1
      have e : j = j / 8 * 8 + j % 8 := by omega
      rw [e, vcells_at l' (j / 8) (by omega) (j % 8) (by omega)] at hu
      have := hc (j / 8) (by omega) (j % 8) u hu
      rw [Nat.add_assoc, ← e] at this
      exact this)
    (vcells_one l') (by simp only [maxLen]; omega) (by omega) hbase
  refine ⟨A', c', w', h1, ?_, h3, h4⟩
  unfold OV
  rw [vcells_append, List.length_append]
  exact h2
theorem OF.append {w : World} {base : Nat} {v : Value} {l : List Fc} (h : OF w base v l) {B : Nat} {A : Option Addr} {m : Nat} {l' : List Fc} (hs : SF w B A m l') (c : Nat) (hm : l.length + m ≤ 100000) (hbase : base ≤ w.heap.size) :
    ∃ A' c' w', (Builtin.append_ #[57, 57] 57 #[v, .slice A m c]).run Tryz.prog w = .ok (.slice A' (l.length + m) c') w' ∧ OF w' base (.slice A' (l.length + m) c') (l ++ l') ∧ (∀ B, B ≤ base → Below B w w') ∧
      (∀ k, k < w.heap.size → (∀ a, v ≠ .slice (some ⟨k, 0, none⟩) l.length a) → w'.heap[k]? = w.heap[k]?) := by
  obtain ⟨rfl, hs⟩ := hs
  obtain ⟨A', c', w', h1, h2, h3, h4⟩ := run_append_src (P := Tryz.prog) (t := 57) Tryz.underlying57 info30 rfl (by omega) h (A := A) (m := l'.length) (c := c) (news := fcells l') (fcells_len l')
    (fun h0 => by
      obtain ⟨b, off, rfl, _, hc⟩ := hs h0
      refine ⟨b, off, rfl, fun j u hu => ?_⟩
      have hj : j < l'.length * 6 := by rw [← fcells_len]; exact (List.getElem?_eq_some_iff.1 hu).1
      have e : j = j / 6 * 6 + j % 6 := by omega
      rw [e, fcells_at l' (j / 6) (by omega) (j % 6) (by omega)] at hu
      have := hc (j / 6) (by omega) (j % 6) u hu
      rw [Nat.add_assoc, ← e] at this
      exact this)
    (fcells_one l') (by simp only [maxLen]; omega) (by omega) hbase
  refine ⟨A', c', w', h1, ?_, h3, h4⟩
  unfold OF
  rw [fcells_append, List.length_append]
  exact h2
theorem OF.append5 {w : World} {base : Nat} {v : Value} {l : List Fc} (h : OF w base v l) {B : Nat} {A : Option Addr} {m : Nat} {l' : List Fc} (hs : SF w B A m l') (c : Nat) (hm : l.length + m ≤ 100000) (hbase : base ≤ w.heap.size) :
    ∃ A' c' w', (Builtin.append_ #[57, 57] 57 #[v, .slice A m c]).run Tryz.prog w = .ok (.slice A' (l.length + m) c') w' ∧ OF w' base (.slice A' (l.length + m) c') (l ++ l') ∧ (∀ B, B ≤ base → Below B w w') ∧
      (∀ k, k < w.heap.size → (∀ a, v ≠ .slice (some ⟨k, 0, none⟩) l.length a) → w'.heap[k]? = w.heap[k]?) ∧ ((Value.slice A' (l.length + m) c').ownBlock = v.ownBlock ∨ (Value.slice A' (l.length + m) c').ownBlock = some w.heap.size) := by
  obtain ⟨rfl, hs⟩ := hs
  obtain ⟨A', c', w', h1, h2, h3, h4⟩ := run_append_src5 (P := Tryz.prog) (t := 57) Tryz.underlying57 info30 rfl (by omega) h (A := A) (m := l'.length) (c := c) (news := fcells l') (fcells_len l')
    (fun h0 => by
      obtain ⟨b, off, rfl, _, hc⟩ := hs h0
      refine ⟨b, off, rfl, fun j u hu => ?_⟩
      have hj : j < l'.length * 6 := by rw [← fcells_len]; exact (List.getElem?_eq_some_iff.1 hu).1
      have e : j = j / 6 * 6 + j % 6 := by omega
      rw [e, fcells_at l' (j / 6) (by omega) (j % 6) (by omega)] at hu
      have := hc (j / 6) (by omega) (j % 6) u hu
      rw [Nat.add_assoc, ← e] at this
      exact this)
    (fcells_one l') (by simp only [maxLen]; omega) (by omega) hbase
  refine ⟨A', c', w', h1, ?_, h3, h4⟩
  unfold OF
  rw [fcells_append, List.length_append]
  exact h2
/-- append, where its run is known. -/
theorem wpList_append_run {P : Program} {w : World} {ops : Array Oper} {rest : List Oper} {o : Oper} {a : Act} {Q : Exit → Act → World → Prop} {s x : Operand} {t : TypeId} {vs vx v' : Value} {w' : World}
    (hr : (Builtin.append_ #[t, t] t #[vs, vx]).run P w = .ok v' w') (hgd : o.guard = none)
    (ho : o.op = .call { callee := .builtin .append, args := #[s, x], argTypes := #[t, t] }) (hty : o.type = t) (hs : a.eval s = vs) (hx : a.eval x = vx)
    (h : wpList P ops Q rest (a.put o.dst v') w') : wpList P ops Q (o :: rest) a w := by
  refine wpList_plain hgd fun _ hK => ?_
  unfold Oper.wp execOp
  simp only [ho, hty, resolve, invoke, builtin, Sem.run_bind, Sem.run_pure, Result.andThen_ok, List.map_toArray, List.map_cons, List.map_nil, hs, hx, hr]
  exact hK _ _ h
/-- append in a region that draws its order: what its run comes to is known. -/
theorem step_append_run {P : Program} {w : World} {ops : Array Oper} {o : Oper} {a : Act} {K : Act → World → Prop} {Q : Exit → Act → World → Prop} {E : Prop} {s x : Operand} {t : TypeId} {vs vx v' : Value} {w' : World}
    (hr : (Builtin.append_ #[t, t] t #[vs, vx]).run P w = .ok v' w') (hgd : o.guard = none)
    (ho : o.op = .call { callee := .builtin .append, args := #[s, x], argTypes := #[t, t] }) (hty : o.type = t) (hs : a.eval s = vs) (hx : a.eval x = vx)
    (h : K (a.put o.dst v') w') : if Region.wanted o (yielded ops a.tmps) = true then Oper.wp P o a w K Q else E := by
  have hw : Region.wanted o (yielded ops a.tmps) = true := by simp [Region.wanted, hgd]
  rw [if_pos hw]
  unfold Oper.wp execOp
  simp only [ho, hty, resolve, invoke, builtin, Sem.run_bind, Sem.run_pure, Result.andThen_ok, List.map_toArray, List.map_cons, List.map_nil, hs, hx, hr]
  exact h
/-- append in a region that draws its order: that it runs, and what it comes to, is known. -/
theorem step_append_ex {P : Program} {w : World} {ops : Array Oper} {o : Oper} {a : Act} {K : Act → World → Prop} {Q : Exit → Act → World → Prop} {E : Prop} {s x : Operand} {t : TypeId} {vs vx : Value} {R : Value → World → Prop}
    (hgd : o.guard = none) (ho : o.op = .call { callee := .builtin .append, args := #[s, x], argTypes := #[t, t] }) (hty : o.type = t) (hs : a.eval s = vs) (hx : a.eval x = vx)
    (hr : ∃ v' w', (Builtin.append_ #[t, t] t #[vs, vx]).run P w = .ok v' w' ∧ R v' w')
    (h : ∀ v' w', R v' w' → K (a.put o.dst v') w') : if Region.wanted o (yielded ops a.tmps) = true then Oper.wp P o a w K Q else E := by
  obtain ⟨v', w', hr, hR⟩ := hr
  exact step_append_run hr hgd ho hty hs hx (h v' w' hR)
/-- A row of one version, just laid. -/
theorem SV.one (w : World) (v : Vr) (t : TypeId) : SV (w.alloc (.cells #[.int .i64 v.op, .bool v.st, .int .i64 v.fc.en, .string v.fc.kd, .int .i64 v.fc.day, .int .i64 v.fc.byy, .int .i64 v.fc.too, .int .i64 v.fc.am] t)) (w.heap.size + 1) (some ⟨w.heap.size, 0, none⟩) 1 [v] := by
  refine ⟨rfl, fun _ => ⟨w.heap.size, 0, rfl, by omega, fun i hi j u hu => ?_⟩⟩
  obtain rfl : i = 0 := by omega
  rw [cell_of_row _ w.heap.size _ _ t (0, 0) (heap_alloc_new w _)]
  simpa [vat, Vr.cells] using hu
theorem SF.one (w : World) (f : Fc) (t : TypeId) : SF (w.alloc (.cells #[.int .i64 f.en, .string f.kd, .int .i64 f.day, .int .i64 f.byy, .int .i64 f.too, .int .i64 f.am] t)) (w.heap.size + 1) (some ⟨w.heap.size, 0, none⟩) 1 [f] := by
  refine ⟨rfl, fun _ => ⟨w.heap.size, 0, rfl, by omega, fun i hi j u hu => ?_⟩⟩
  obtain rfl : i = 0 := by omega
  rw [cell_of_row _ w.heap.size _ _ t (0, 0) (heap_alloc_new w _)]
  simpa [fat, Fc.cells] using hu
end Go.Proofs.YtngjghblpbdciaaGreatDoor.Fa

/- The contracts of the small functions on numbers, bytes and strings. -/
namespace Go.Proofs.YtngjghblpbdciaaGreatDoor.Fa
open Go Go.RowKit

theorem ret_bool {a b : Bool} (h : a = b) : Ending.returned (.bool a) = .returned (.bool b) := by rw [h]
theorem ret_int {k : IntKind} {a b : Int} (h : a = b) : Ending.returned (.int k a) = .returned (.int k b) := by rw [h]

theorem fin_any (n hi : Int) (w : World)  :
    Calls Tryz.prog 32 #[.int .i64 n, .int .i64 hi] w fun e w' => e = .returned (.bool (inB n 0 (hi - 1))) ∧ w = w' := by
  by_cases h1 : 0 ≤ n
  · by_cases h2 : n < hi
    · go_enter Tryz.func32, Tryz.ntmps32
      go_wp2
      go_ret
      exact ⟨ret_bool (by simp [inB]; omega), rfl⟩
    · go_enter Tryz.func32, Tryz.ntmps32
      go_wp2
      go_ret
      exact ⟨ret_bool (by simp [inB]; omega), rfl⟩
  · go_enter Tryz.func32, Tryz.ntmps32
    go_wp2
    go_ret
    exact ⟨ret_bool (by simp [inB]; omega), rfl⟩
theorem take_snoc (s : ByteArray) (k : Nat) (h : k < s.size) : s.data.toList.take (k + 1) = s.data.toList.take k ++ [s[k]] := by
  rw [List.take_succ_eq_append_getElem (by simpa using h)]; rfl
theorem head_eq (s : ByteArray) (h : 0 < s.size) : s.data.toList.headD 0 = s[0] := by
  have e : s.data.toList = s.data.toList.take 1 ++ s.data.toList.drop 1 := (List.take_append_drop 1 _).symm
  rw [take_snoc s 0 h] at e
  rw [e]; rfl
theorem empty_of_size (s : ByteArray) (h : s.size = 0) : s.toList = [] := by
  rw [ByteArray.toList_eq]; exact List.eq_nil_of_length_eq_zero (by simpa using h)
theorem toList_ne (s : ByteArray) (h : 0 < s.size) : s.toList.isEmpty = false ∧ ¬ s.toList = [] := by
  have : ¬ s.toList = [] := fun e => by
    rw [ByteArray.toList_eq] at e
    have h1 := congrArg List.length e
    rw [List.length_nil, Array.length_toList] at h1
    have h2 : s.data.size = s.size := rfl
    omega
  exact ⟨by simpa using this, this⟩
theorem all_false (s : ByteArray) (k : Nat) (hk : k < s.size) (h : wchB s[k] = false) : s.data.toList.all wchB = false := by
  rw [← List.take_append_drop (k + 1) s.data.toList, take_snoc s k hk]
  simp [h]
theorem all_snoc (s : ByteArray) (k : Nat) (hk : k < s.size) (h : wchB s[k] = true) (ha : (s.data.toList.take k).all wchB = true) : (s.data.toList.take (k + 1)).all wchB = true := by
  rw [take_snoc s k hk, List.all_append, ha]
  simp [h]
theorem all_end (s : ByteArray) (k : Nat) (hk : s.size ≤ k) (ha : (s.data.toList.take k).all wchB = true) : s.data.toList.all wchB = true := by
  rwa [List.take_of_length_le (by simpa using hk)] at ha

end Go.Proofs.YtngjghblpbdciaaGreatDoor.Fa

/- The contract of facts.word. -/
namespace Go.Proofs.YtngjghblpbdciaaGreatDoor.Fa
open Go Go.RowKit

theorem wordB_eq (s : ByteArray) (h0 : 0 < s.size) (hl : letB s[0] = true) (ha : s.data.toList.all wchB = true) : wordB s = decide (s.size ≤ 12) := by
  unfold wordB; rw [head_eq s h0, hl, ha, decide_eq_true h0]; simp
theorem wordB_head (s : ByteArray) (h0 : 0 < s.size) (hl : letB s[0] = false) : wordB s = false := by
  unfold wordB; rw [head_eq s h0, hl]; simp
theorem wordB_all (s : ByteArray) (ha : s.data.toList.all wchB = false) : wordB s = false := by
  unfold wordB; rw [ha]; simp

theorem pw_bad (s : ByteArray) (k : Nat) (hk : k < s.size) (hl : letB s[k] = false) (h : digB s[k] = false ∨ k = 0) : wordB s = false := by
  rcases h with h | h
  · exact wordB_all s (all_false s k hk (by simp [wchB, hl, h]))
  · subst h; exact wordB_head s hk hl
def Pw (s : ByteArray) (k : Nat) : Prop := (s.data.toList.take k).all wchB = true ∧ ∀ h : 0 < s.size, 0 < k → letB s[0] = true
theorem pw_step (s : ByteArray) (k : Nat) (hk : k < s.size) (h : Pw s k) (hc : letB s[k] = true ∨ (digB s[k] = true ∧ k ≠ 0)) : Pw s (k + 1) := by
  refine ⟨all_snoc s k hk (by rcases hc with hc | hc <;> simp [wchB, hc]) h.1, fun h0 _ => ?_⟩
  by_cases hz : k = 0
  · subst hz; simpa using hc
  · exact h.2 h0 (by omega)
theorem pw_end (s : ByteArray) (k : Nat) (hk : s.size ≤ k) (h : Pw s k) (h0 : 0 < s.size) : wordB s = decide (s.size ≤ 12) :=
  wordB_eq s h0 (h.2 h0 (by omega)) (all_end s k hk h.1)

set_option maxRecDepth 100000 in
set_option maxHeartbeats 1000000 in
theorem pword_any (s : ByteArray) (w : World) (hs : s.size ≤ maxLen) :
    Calls Tryz.prog 53 #[.string s] w fun e w' => e = .returned (.bool (wordB s)) ∧ ∃ n, w' = w.drewN n := by
  unfold maxLen at hs
  go_enter Tryz.func53, Tryz.ntmps53
  go_wp2
  go_loopw [8] (fun i wr => ∃ k n : Nat, k ≤ s.size ∧ i = .int .i64 k ∧ wr = w.drewN n ∧ Pw s k) (fun i _ => s.size - (intOf i).toNat)
  case atStart => exact ⟨0, 0, Nat.zero_le _, rfl, rfl, rfl, fun _ h => absurd h (by omega)⟩
  case round =>
    obtain ⟨k, n, hk, rfl, rfl, ha⟩ := hrel
    have HA := Lib.hid ha; clear ha
    by_cases hlt : k < s.size
    · have hi1 : (k : Int) < s.size := by omega
      have hcase : ∃ b1 b2 b3 b4 b5 : Bool, decide (97 ≤ (s[k].toNat : Int)) = b1 ∧ decide ((s[k].toNat : Int) ≤ 122) = b2 ∧ decide (48 ≤ (s[k].toNat : Int)) = b3 ∧ decide ((s[k].toNat : Int) ≤ 57) = b4 ∧ ((k : Int) == 0) = b5 := ⟨_, _, _, _, _, rfl, rfl, rfl, rfl, rfl⟩
      obtain ⟨b1, b2, b3, b4, b5, d1, d2, d3, d4, d5⟩ := hcase
      have hL : letB s[k] = (b1 && b2) := by rw [← d1, ← d2]; rfl
      have hD : digB s[k] = (b3 && b4) := by rw [← d3, ← d4]; rfl
      have hZ : decide (k = 0) = b5 := by rw [← d5, Bool.eq_iff_iff]; simp
      have HL := Lib.hid hL; clear hL
      have HD := Lib.hid hD; clear hD
      have HZ := Lib.hid hZ; clear hZ
      cases b1 <;> cases b2 <;> cases b3 <;> cases b4 <;> cases b5
      all_goals
        go_wp2
        go_quiet (fail)
        go_wp2
        first
          | (go_ret
             exact ⟨ret_bool (pw_bad s k hlt HL.out (by first | exact .inl HD.out | exact .inr (of_decide_eq_true HZ.out))).symm, _, rfl⟩)
          | (have hst := pw_step s k hlt HA.out (by first | exact .inl HL.out | exact .inr ⟨HD.out, of_decide_eq_false HZ.out⟩)
             have hm : s.size - (k + 1) < s.size - k := by omega
             first
               | exact ⟨⟨k + 1, _, hlt, by go_num, rfl, hst⟩, by simpa [intOf] using hm⟩
               | (refine ⟨?_, by simpa [intOf] using hm⟩
                  repeat apply Exists.intro
                  exact ⟨⟨k + 1, _, hlt, by go_num, rfl, hst⟩, rfl⟩))
    · by_cases h0 : s.size = 0
      · have he := empty_of_size s h0
        have hf : wordB s = false := by simp [wordB, h0]
        have HF := Lib.hid hf; clear hf h0
        go_wp2
        go_ret
        exact ⟨ret_bool (by rw [HF.out]), n, rfl⟩
      · obtain ⟨hn1, hn2⟩ := toList_ne s (by omega)
        have hf := pw_end s k (by omega) HA.out (by omega)
        have HF := Lib.hid hf; clear hf
        have hn3 : (!s.toList.isEmpty) = true := by simp [hn1]
        go_wp2
        go_ret
        exact ⟨ret_bool (by rw [HF.out]; simp; omega), n, rfl⟩
end Go.Proofs.YtngjghblpbdciaaGreatDoor.Fa

/- The contracts of rollbookref18.Valid and facts.valid. -/
namespace Go.Proofs.YtngjghblpbdciaaGreatDoor.Fa
open Go Go.RowKit

set_option maxRecDepth 100000 in
set_option maxHeartbeats 1000000 in
theorem valid_any (f : Fc) (w : World) (hs : f.kd.size ≤ maxLen) :
    Calls Tryz.prog 33 #[f.val] w fun e w' => e = .returned (.bool (okF f)) ∧ Ext w w' := by
  unfold Fc.val
  go_enter Tryz.func33, Tryz.ntmps33
  go_wp2_with (first | (go_at_call 32; refine (fin_any _ _ _).mono ?_; rintro e w' ⟨rfl, rfl⟩) | (go_at_call 53; refine (pword_any _ _ hs).mono ?_; rintro e w' ⟨rfl, nq, rfl⟩))
  all_goals
    go_ret
    refine ⟨ret_bool ?_, (by first | exact (Ext.refl _).alloc _ | exact ((Ext.refl _).alloc _).drewN _)⟩
    first | (simp [okF, *]; done) | (simp [okF, *]; simp [inB, *]; done) | (simp [okF, *]; simp [inB]; omega)
end Go.Proofs.YtngjghblpbdciaaGreatDoor.Fa

/- A map keyed by int that lies in one block, known entry by entry: what a look-up, a store, a range and its steps do. -/
namespace Go.Proofs.YtngjghblpbdciaaGreatDoor.Fa
open Go Go.RowKit Go.MapKept
open Go.ChangeMaps (setBlock)

namespace IM
def entsFrom : Nat → List (Int × Value) → List MapEntry
  | _, [] => []
  | c, p :: r => { key := .int .i64 p.1, val := p.2, born := c } :: entsFrom (c + 1) r
def findI : List (Int × Value) → Int → Nat → Option (Nat × Value)
  | [], _, _ => none
  | p :: r, k, i => if k = p.1 then some (i, p.2) else findI r k (i + 1)
def get : List (Int × Value) → Int → Option Value
  | [], _ => none
  | p :: r, k => if k = p.1 then some p.2 else get r k
def put : List (Int × Value) → Int → Value → List (Int × Value)
  | [], k, v => [(k, v)]
  | p :: r, k, v => if k = p.1 then (k, v) :: r else p :: put r k v

theorem findI_get (es : List (Int × Value)) (k : Int) : ∀ i, (findI es k i).map (·.2) = get es k := by
  induction es with
  | nil => intro i; rfl
  | cons p r ih => intro i; simp only [findI, get]; split <;> simp [ih]
theorem get_put (es : List (Int × Value)) (k : Int) (v : Value) (k' : Int) : get (put es k v) k' = if k' = k then some v else get es k' := by
  induction es with
  | nil => simp [put, get]
  | cons p r ih =>
    simp only [put]
    by_cases h : k = p.1
    · subst h; simp only [if_true, get]; split <;> rfl
    · simp only [if_neg h, get, ih]
      by_cases h1 : k' = p.1
      · have : ¬ k' = k := fun e => h (e.symm.trans h1)
        simp [h1]
        intro e; exact absurd e.symm h
      · simp only [if_neg h1]
theorem ents_len (es : List (Int × Value)) : ∀ c, (entsFrom c es).length = es.length := by
  induction es with
  | nil => intro c; rfl
  | cons p r ih => intro c; simp [entsFrom, ih]
theorem ents_get (es : List (Int × Value)) : ∀ c i : Nat, (entsFrom c es)[i]? = es[i]?.map fun p => ({ key := .int .i64 p.1, val := p.2, born := c + i } : MapEntry) := by
  induction es with
  | nil => intro c i; rfl
  | cons p r ih =>
    intro c i
    cases i with
    | zero => rfl
    | succ i => simp only [entsFrom, List.getElem?_cons_succ, ih]; rw [show c + 1 + i = c + (i + 1) by omega]
theorem findNow_ents (k : Int) (es : List (Int × Value)) : ∀ c i, Instr.findNow (.int .i64) (.int .i64 k) (entsFrom c es) i = some (findI es k i) := by
  induction es with
  | nil => intro c i; rfl
  | cons p r ih =>
    intro c i
    simp only [entsFrom, Instr.findNow, Instr.sameNow, if_true, findI]
    by_cases h : k = p.1
    · simp [h]
    · have : (k == p.1) = false := by simpa using h
      simp [this, h, ih]
theorem put_some (k : Int) (v : Value) (es : List (Int × Value)) : ∀ c i j u, findI es k i = some (j, u) → ∃ m, j = i + m ∧ m < es.length ∧
    (entsFrom c es).modify m (fun e => { e with key := .int .i64 k, val := v }) = entsFrom c (put es k v) ∧ (put es k v).length = es.length ∧ (es[m]?.map (·.1)) = some k := by
  induction es with
  | nil => intro c i j u h; simp [findI] at h
  | cons p r ih =>
    intro c i j u h
    simp only [findI] at h
    by_cases hk : k = p.1
    · rw [if_pos hk] at h
      injection h with h
      injection h with h1 h2
      exact ⟨0, by omega, by simp, by simp [entsFrom, put, hk], by simp [put, hk], by simp [hk]⟩
    · rw [if_neg hk] at h
      obtain ⟨m, h1, h2, h3, h4, h5⟩ := ih (c + 1) (i + 1) j u h
      exact ⟨m + 1, by omega, by simp; omega, by simp only [entsFrom, put, if_neg hk, List.modify_succ_cons, h3], by simp [put, if_neg hk, h4], by simpa using h5⟩
theorem put_none (k : Int) (v : Value) (es : List (Int × Value)) : ∀ c i, findI es k i = none →
    entsFrom c es ++ [{ key := .int .i64 k, val := v, born := c + es.length }] = entsFrom c (put es k v) ∧ (put es k v).length = es.length + 1 := by
  induction es with
  | nil => intro c i _; exact ⟨rfl, rfl⟩
  | cons p r ih =>
    intro c i h
    simp only [findI] at h
    by_cases hk : k = p.1
    · rw [if_pos hk] at h; cases h
    · rw [if_neg hk] at h
      obtain ⟨h1, h2⟩ := ih (c + 1) (i + 1) h
      refine ⟨?_, by simp [put, if_neg hk, h2]⟩
      simp only [put, if_neg hk, entsFrom, List.cons_append, List.length_cons, ← h1]
      rw [show c + 1 + r.length = c + (r.length + 1) by omega]
end IM

/-- Block b is a map keyed by int whose entries are es, in the order in which they were laid. -/
def IMp (w : World) (b : Nat) (es : List (Int × Value)) : Prop := w.heap[b]? = some (.map (IM.entsFrom 0 es).toArray es.length)

theorem IMp.made (w : World) : IMp (w.alloc (.map #[] 0)) w.heap.size [] := heap_alloc_new w _
theorem IMp.lt {w : World} {b : Nat} {es : List (Int × Value)} (h : IMp w b es) : b < w.heap.size := lt_of_block h
theorem IMp.grown {w w' : World} {b : Nat} {es : List (Int × Value)} {row : Option Nat} (h : IMp w b es) (hg : w.grownBy w' row) (hr : some b ≠ row) : IMp w' b es := (hg.block b h.lt hr).trans h
theorem IMp.below {w w' : World} {b B : Nat} {es : List (Int × Value)} (h : IMp w b es) (hb : Below B w w') (hB : b < B) : IMp w' b es := (hb.block b hB).trans h
theorem IMp.alloc {w : World} {b : Nat} {es : List (Int × Value)} (h : IMp w b es) (o : Obj) : IMp (w.alloc o) b es := (Below.heap_alloc w o b h.lt).trans h
theorem IMp.drewN {w : World} {b : Nat} {es : List (Int × Value)} (h : IMp w b es) (n : Nat) : IMp (w.drewN n) b es := h
theorem IMp.setCell {w : World} {b : Nat} {es : List (Int × Value)} (h : IMp w b es) {p : Addr} (u : Value) : IMp (w.setCell p u) b es := by
  by_cases hp : b = p.block
  · unfold IMp at *
    rw [World.setCell]
    simp only [Array.getElem?_modify]
    subst hp
    rw [if_pos rfl, h]; rfl
  · exact (Below.heap_setCell w p u b hp).trans h

section
variable {P : Program} {w : World} {b : Nat} {es : List (Int × Value)} {t kt et : TypeId}
theorem run_lookup_im (h : IMp w b es) (ht : P.underlying t = some (.map kt et)) (hk : P.underlying kt = some (.int .i64)) {z : Value} (hz : (zeroValue et).run P w = .ok z w) (k : Int) (ok : Bool) :
    (Instr.lookup t (.map (some b)) (.int .i64 k) ok).run P w = .ok (if ok then .tuple #[(IM.get es k).getD z, .bool (IM.get es k).isSome] else (IM.get es k).getD z) w := by
  have hf := run_findKey (P := P) (w := w) (kt := kt) hk (IM.findNow_ents k es 0 0)
  have hc := run_checkKey (P := P) (w := w) (kt := kt) (d := .int .i64) (k := .int .i64 k) hk rfl (IM.entsFrom 0 es).toArray.isEmpty 9999
  have hg := IM.findI_get es k 0
  simp only [Instr.lookup, Sem.run_bind, run_underlying ht, Result.andThen, Sem.run_pure, MapKept.run_getObj_map h]
  rw [hc]
  simp only [hf]
  rw [← hg]
  cases hfi : IM.findI es k 0 with
  | none => simp [hz, Result.andThen]
  | some p => simp
theorem run_update_im (h : IMp w b es) (ht : P.underlying t = some (.map kt et)) (hk : P.underlying kt = some (.int .i64)) (k : Int) (v : Value) :
    ∃ w', (Instr.mapUpdate t (.map (some b)) (.int .i64 k) v).run P w = .ok () w' ∧ IMp w' b (IM.put es k v) ∧ w.grownBy w' (some b) := by
  have hf := run_findKey (P := P) (w := w) (kt := kt) hk (IM.findNow_ents k es 0 0)
  have hc := run_checkKey (P := P) (w := w) (kt := kt) (d := .int .i64) (k := .int .i64 k) hk rfl false 9999
  have hw : ∀ o, w.grownBy (setBlock w b o) (some b) := fun o => ⟨rfl, rfl, rfl, by simp [setBlock], fun i hi hne => by
    show (w.heap.setIfInBounds b o)[i]? = _
    rw [Array.getElem?_setIfInBounds_ne (fun e => hne (by rw [e]))]⟩
  have hn : ∀ o, (setBlock w b o).heap[b]? = some o := fun o => by
    show (w.heap.setIfInBounds b o)[b]? = _
    simp [h.lt]
  simp only [Instr.mapUpdate, Sem.run_bind, run_underlying ht, Result.andThen, MapKept.run_getObj_map h]
  rw [hc]
  simp only [hf]
  cases hfi : IM.findI es k 0 with
  | none =>
    obtain ⟨h1, h2⟩ := IM.put_none k v es 0 0 hfi
    refine ⟨setBlock w b (.map (IM.entsFrom 0 (IM.put es k v)).toArray (IM.put es k v).length), ?_, hn _, hw _⟩
    simp only [MapKept.run_setObj_map _ h]
    rw [h2, ← h1]
    simp [setBlock]
  | some p =>
    obtain ⟨j, u⟩ := p
    obtain ⟨m, h1, h2, h3, h4, h5⟩ := IM.put_some k v es 0 0 j u hfi
    obtain rfl : j = m := by omega
    have hkey : (((IM.entsFrom 0 es).toArray[j]?).map (·.key)).getD (.int .i64 k) = .int .i64 k := by
      rw [List.getElem?_toArray, IM.ents_get]
      cases hm : es[j]? with
      | none => rfl
      | some q => rw [hm] at h5; simp at h5; simp [h5]
    refine ⟨setBlock w b (.map (IM.entsFrom 0 (IM.put es k v)).toArray (IM.put es k v).length), ?_, hn _, hw _⟩
    simp only [hkey, Sem.run_bind, run_keyThatStays (d := .int .i64) (k := .int .i64 k) rfl, Result.andThen, MapKept.run_setObj_map _ h]
    rw [h4, ← h3]
    simp [setBlock]

theorem IM.ents_born (es : List (Int × Value)) : ∀ c, (∀ x ∈ IM.entsFrom c es, c ≤ x.born ∧ x.born < c + es.length) ∧ ((IM.entsFrom c es).map (·.born)).Nodup := by
  induction es with
  | nil => intro c; exact ⟨by simp [IM.entsFrom], by simp [IM.entsFrom]⟩
  | cons p r ih =>
    intro c
    obtain ⟨h1, h2⟩ := ih (c + 1)
    refine ⟨?_, ?_⟩
    · intro x hx
      simp only [IM.entsFrom, List.mem_cons] at hx
      rcases hx with rfl | hx
      · simp
      · have := h1 x hx; simp; omega
    · simp only [IM.entsFrom, List.map_cons, List.nodup_cons]
      refine ⟨fun hm => ?_, h2⟩
      obtain ⟨x, hx, he⟩ := List.mem_map.1 hm
      have := h1 x hx
      omega

/-- Block r is an iterator over the map in block b, which has handed out the entries with the numbers 'seen'. -/
def IIt (w : World) (r b : Nat) (n : Nat) (seen : List Nat) : Prop := w.heap[r]? = some (.mapIter (some b) n seen.toArray n)

theorem IIt.lt {r n : Nat} {seen : List Nat} (h : IIt w r b n seen) : r < w.heap.size := lt_of_block h
theorem IIt.grown {w' : World} {r n : Nat} {seen : List Nat} {row : Option Nat} (h : IIt w r b n seen) (hg : w.grownBy w' row) (hr : some r ≠ row) : IIt w' r b n seen := (hg.block r h.lt hr).trans h
theorem IIt.below {w' : World} {r n B : Nat} {seen : List Nat} (h : IIt w r b n seen) (hb : Below B w w') (hB : r < B) : IIt w' r b n seen := (hb.block r hB).trans h
theorem IIt.alloc {r n : Nat} {seen : List Nat} (h : IIt w r b n seen) (o : Obj) : IIt (w.alloc o) r b n seen := (Below.heap_alloc w o r h.lt).trans h
theorem IIt.drewN {r n : Nat} {seen : List Nat} (h : IIt w r b n seen) (k : Nat) : IIt (w.drewN k) r b n seen := h

theorem run_range_im (h : IMp w b es) (ht : P.underlying t = some (.map kt et)) :
    (Instr.range t (.map (some b))).run P w = .ok (.pointer (some ⟨w.heap.size, 0, none⟩)) (w.alloc (.mapIter (some b) es.length #[] es.length)) :=
  run_range_map w t kt et b _ _ ht h
theorem IIt.made (w : World) (b n : Nat) : IIt (w.alloc (.mapIter (some b) n #[] n)) w.heap.size b n [] := heap_alloc_new w _

theorem run_next_im {r : Nat} {seen : List Nat} (h : IMp w b es) (hi : IIt w r b es.length seen) (ty : TypeId) :
    ((∀ i, i < es.length → i ∈ seen) ∧ (Instr.next (.pointer (some ⟨r, 0, none⟩)) false ty).run P w = .ok (.tuple #[.bool false]) w) ∨
    ∃ (i : Nat) (p : Int × Value) (w1 : World), es[i]? = some p ∧ i ∉ seen ∧ (Instr.next (.pointer (some ⟨r, 0, none⟩)) false ty).run P w = .ok (.tuple #[.bool true, .int .i64 p.1, p.2]) w1 ∧
      IIt w1 r b es.length (seen ++ [i]) ∧ w.grownBy w1 (some r) ∧ w1.heap.size = w.heap.size ∧ (Instr.entry (.pointer (some ⟨r, 0, none⟩))).run P w1 = .ok (.tuple #[.int .i64 p.1, p.2]) w1 := by
  obtain ⟨hb1, hb2⟩ := IM.ents_born es 0
  have hne : r ≠ b := fun e => by subst e; unfold IMp at h; unfold IIt at hi; rw [h] at hi; cases hi
  have hmem : ∀ i, i < es.length → ∃ x ∈ IM.entsFrom 0 es, x.born = i := fun i hlt => by
    have hg := IM.ents_get es 0 i
    rw [List.getElem?_eq_getElem hlt] at hg
    exact ⟨_, List.mem_of_getElem? hg, by simp⟩
  rcases run_next_at (P := P) w ty r b es.length es.length seen.toArray (IM.entsFrom 0 es).toArray es.length hi h (fun x hx => by have := hb1 x (by simpa using hx); omega) (Nat.le_refl _) with ⟨h0, hrun⟩ | ⟨e, he, w1, hw1, hrun⟩
  · refine .inl ⟨fun i hlt => ?_, hrun⟩
    obtain ⟨x, hx, hxb⟩ := hmem i hlt
    have := all_seen _ _ h0 x (by simpa using hx)
    rw [hxb] at this
    simpa using this
  · obtain ⟨hel, hes⟩ := mem_left he
    have hel' : e ∈ IM.entsFrom 0 es := by simpa using hel
    obtain ⟨i, hi1, hi2⟩ := List.mem_iff_getElem.1 hel'
    rw [IM.ents_len] at hi1
    have hg := IM.ents_get es 0 i
    rw [List.getElem?_eq_getElem hi1, List.getElem?_eq_getElem (by rw [IM.ents_len]; exact hi1), hi2] at hg
    simp only [Option.map_some, Nat.zero_add, Option.some.injEq] at hg
    have hgr : ∀ o : Obj, w.grownBy (setBlock w1 r o) (some r) := fun o => by
      have hh : w1.heap = w.heap ∧ w1.os = w.os ∧ w1.tape = w.tape ∧ w1.output = w.output := by rcases hw1 with rfl | rfl <;> exact ⟨rfl, rfl, rfl, rfl⟩
      refine ⟨hh.2.1, hh.2.2.1, hh.2.2.2, by simp [setBlock, hh.1], fun k hk hk' => ?_⟩
      show (w1.heap.setIfInBounds r o)[k]? = _
      rw [Array.getElem?_setIfInBounds_ne (fun e => hk' (by rw [e])), hh.1]
    have hsz : ∀ o : Obj, (setBlock w1 r o).heap.size = w.heap.size := fun o => by rcases hw1 with rfl | rfl <;> simp [setBlock]
    have hnew : ∀ o : Obj, (setBlock w1 r o).heap[r]? = some o := fun o => by
      show (w1.heap.setIfInBounds r o)[r]? = _
      have : r < w1.heap.size := by rcases hw1 with rfl | rfl <;> exact hi.lt
      simp [this]
    have hkey : e.key = .int .i64 es[i].1 := by rw [hg]
    have hval : e.val = es[i].2 := by rw [hg]
    have hborn : e.born = i := by rw [hg]
    refine .inr ⟨i, es[i], _, List.getElem?_eq_getElem hi1, fun hm => ?_, by rw [← hkey, ← hval]; exact hrun, ?_, hgr _, hsz _, ?_⟩
    · rw [hborn] at hes
      have : seen.toArray.contains i = true := by simpa using hm
      rw [this] at hes; cases hes
    · have := hnew (.mapIter (some b) es.length (seen.toArray.push e.born) es.length)
      unfold IIt
      rw [this, hborn]; simp
    · have hbm : (setBlock w1 r (.mapIter (some b) es.length (seen.toArray.push e.born) es.length)).heap[b]? = some (.map (IM.entsFrom 0 es).toArray es.length) :=
        ((hgr _).block b h.lt (fun e => hne (by injection e with e; exact e.symm))).trans h
      rw [run_entry_at (P := P) _ r b es.length seen.toArray (IM.entsFrom 0 es).toArray es.length e (hnew _) hbm (by simpa using hel') (by simpa using hb2), hkey, hval]
end
end Go.Proofs.YtngjghblpbdciaaGreatDoor.Fa

/- Plain lists, continued: what facts.present.add computes, and that it is what the reference says. -/
namespace Go.Proofs.YtngjghblpbdciaaGreatDoor.Fa

def presOf (l : List Vr) (en : Int) : Bool := match lastOf l en with | some u => !u.st | none => false
def opOf (l : List Vr) (k : Nat) : Int := if k = 0 then 0 else (vat l (k - 1)).op
def addOf (P : Int → Bool) (v : Vr) (op0 : Int) : Int :=
  if v.op < 0 then 5
  else if v.st = false ∧ okF v.fc = false then 5
  else if v.st = true ∧ inB v.fc.en 0 65535 = false then 5
  else if v.op < op0 then 12
  else if v.st = true ∧ P v.fc.en = false then 3
  else 0

theorem addOf_eq (l : List Vr) (v : Vr) : addOf (presOf l) v (opOf l l.length) = wrongOf l v := by
  unfold addOf wrongOf
  by_cases h1 : v.op < 0
  · rw [if_pos h1, if_pos h1]
  rw [if_neg h1, if_neg h1]
  by_cases h2 : v.st = false ∧ okF v.fc = false
  · rw [if_pos h2, if_pos h2]
  rw [if_neg h2, if_neg h2]
  have h3 : (v.st = true ∧ inB v.fc.en 0 65535 = false) ↔ inB v.fc.en 0 65535 = false := by
    refine ⟨fun h => h.2, fun h => ⟨?_, h⟩⟩
    cases hs : v.st with
    | true => rfl
    | false =>
      exfalso; apply h2; refine ⟨hs, ?_⟩
      simp [okF, h]
  by_cases h4 : inB v.fc.en 0 65535 = false
  · rw [if_pos (h3.2 h4), if_pos h4]
  rw [if_neg (fun h => h4 (h3.1 h)), if_neg h4]
  have h5 : (v.op < opOf l l.length) ↔ (0 < l.length ∧ v.op < (vat l (l.length - 1)).op) := by
    unfold opOf
    by_cases h0 : l.length = 0
    · rw [if_pos h0]; omega
    · rw [if_neg h0]; exact ⟨fun h => ⟨by omega, h⟩, fun h => h.2⟩
  by_cases h6 : v.op < opOf l l.length
  · rw [if_pos h6, if_pos (h5.1 h6)]
  rw [if_neg h6, if_neg (fun h => h6 (h5.2 h))]
  have h7 : (presOf l v.fc.en = false) ↔ (match lastOf l v.fc.en with | some u => u.st | none => true) = true := by
    unfold presOf; cases lastOf l v.fc.en <;> simp
  by_cases h8 : v.st = true ∧ presOf l v.fc.en = false
  · rw [if_pos h8, if_pos ⟨h8.1, h7.1 h8.2⟩]
  · rw [if_neg h8, if_neg (fun h => h8 ⟨h.1, h7.2 h.2⟩)]
theorem opOf_take (l : List Vr) (k : Nat) (hk : k ≤ l.length) : opOf (l.take k) (l.take k).length = opOf l k := by
  unfold opOf
  rw [List.length_take, Nat.min_eq_left hk]
  by_cases h : k = 0
  · simp [h]
  · rw [if_neg h, if_neg h]
    have : vat (l.take k) (k - 1) = vat l (k - 1) := by simp [vat, show k - 1 < k by omega]
    rw [this]
theorem add_is_wrong (l : List Vr) (k : Nat) (hk : k ≤ l.length) : addOf (presOf (l.take k)) (vat l k) (opOf l k) = wrongOf (l.take k) (vat l k) := by
  rw [← addOf_eq, opOf_take l k hk]
theorem presOf_snoc (l : List Vr) (v : Vr) (en : Int) : presOf (l ++ [v]) en = if en = v.fc.en then !v.st else presOf l en := by
  unfold presOf
  rw [lastOf_snoc]
  by_cases h : v.fc.en = en
  · simp [h]
  · rw [if_neg h, if_neg (fun e => h e.symm)]
theorem presOf_step (l : List Vr) (k : Nat) (hk : k < l.length) : presOf (l.take (k + 1)) = fun en => if en = (vat l k).fc.en then !(vat l k).st else presOf (l.take k) en := by
  funext en; rw [take_vat hk, presOf_snoc]
end Go.Proofs.YtngjghblpbdciaaGreatDoor.Fa

/- The contracts of facts.present.add, facts.of, facts.Check. -/
namespace Go.Proofs.YtngjghblpbdciaaGreatDoor.Fa
open Go Go.RowKit

/-- Block b is a map from int to bool that reads as P, where an entry that is not there reads as false. -/
def PM (w : World) (b : Nat) (P : Int → Bool) : Prop := ∃ es, IMp w b es ∧ ∀ k, (IM.get es k).getD (.bool false) = .bool (P k)

theorem zeroBool (w : World) : (zeroValue 4).run Tryz.prog w = .ok (.bool false) w := by kernel_rfl
theorem PM.look {w : World} {b : Nat} {P : Int → Bool} (h : PM w b P) (k : Int) : (Instr.lookup 41 (.map (some b)) (.int .i64 k) false).run Tryz.prog w = .ok (.bool (P k)) w := by
  obtain ⟨es, h1, h2⟩ := h
  rw [run_lookup_im h1 Tryz.underlying41 Tryz.underlying3 (zeroBool w)]
  simp [h2]
theorem PM.store {w : World} {b : Nat} {P : Int → Bool} (h : PM w b P) (k : Int) (x : Bool) :
    ∃ w', (Instr.mapUpdate 41 (.map (some b)) (.int .i64 k) (.bool x)).run Tryz.prog w = .ok () w' ∧ PM w' b (fun k' => if k' = k then x else P k') ∧ w.grownBy w' (some b) := by
  obtain ⟨es, h1, h2⟩ := h
  obtain ⟨w', hr, h3, h4⟩ := run_update_im (P := Tryz.prog) h1 Tryz.underlying41 Tryz.underlying3 k (.bool x)
  refine ⟨w', hr, ⟨_, h3, fun k' => ?_⟩, h4⟩
  rw [IM.get_put]
  by_cases hk : k' = k
  · simp [hk]
  · simp [hk, h2]
theorem PM.grown {w w' : World} {b : Nat} {P : Int → Bool} (h : PM w b P) {row : Option Nat} (hg : w.grownBy w' row) (hr : some b ≠ row) : PM w' b P := by
  obtain ⟨es, h1, h2⟩ := h; exact ⟨es, h1.grown hg hr, h2⟩
theorem PM.ext {w w' : World} {b : Nat} {P : Int → Bool} (h : PM w b P) (hx : Ext w w') : PM w' b P := by
  obtain ⟨es, h1, h2⟩ := h; exact ⟨es, h1.below hx h1.lt, h2⟩
theorem PM.alloc {w : World} {b : Nat} {P : Int → Bool} (h : PM w b P) (o : Obj) : PM (w.alloc o) b P := by
  obtain ⟨es, h1, h2⟩ := h; exact ⟨es, h1.alloc o, h2⟩
theorem PM.drewN {w : World} {b : Nat} {P : Int → Bool} (h : PM w b P) (n : Nat) : PM (w.drewN n) b P := h
theorem PM.lt {w : World} {b : Nat} {P : Int → Bool} (h : PM w b P) : b < w.heap.size := by obtain ⟨es, h1, _⟩ := h; exact h1.lt

def AddPost (P : Int → Bool) (b : Nat) (v : Vr) (op0 : Int) (w : World) (e : Ending) (w' : World) : Prop :=
  e = .returned (.int .i64 (addOf P v op0)) ∧ w.grownBy w' (some b) ∧ PM w' b (if addOf P v op0 = 0 then fun k => if k = v.fc.en then !v.st else P k else P)

theorem grownBy_ext {w w' : World} (h : Ext w w') (row : Option Nat) : w.grownBy w' row := ⟨h.os, h.tape, h.output, h.size, fun i hi _ => h.block i hi⟩
theorem ext_grown {w w1 w2 : World} {b : Nat} (h : Ext w w1) (hg : w1.grownBy w2 (some b)) : w.grownBy w2 (some b) :=
  ⟨hg.os.trans h.os, hg.tape.trans h.tape, hg.output.trans h.output, Nat.le_trans h.size hg.size, fun i hi hne => (hg.block i (Nat.lt_of_lt_of_le hi h.size) hne).trans (h.block i hi)⟩

set_option maxRecDepth 100000 in
set_option maxHeartbeats 2000000 in
theorem add_any (P : Int → Bool) (b : Nat) (v : Vr) (op0 : Int) (w : World) (h : PM w b P) (hs : v.fc.kd.size ≤ maxLen) :
    Calls Tryz.prog 11 #[.map (some b), v.val, .int .i64 op0] w (AddPost P b v op0 w) := by
  have HS := Lib.hid h; clear h
  unfold Vr.val
  by_cases h1 : v.op < 0
  · have hf : addOf P v op0 = 5 := by simp [addOf, h1]
    have HF := Lib.hid hf; clear hf
    go_enter Tryz.func11, Tryz.ntmps11
    go_wp2
    go_ret
    exact ⟨ret_int (by rw [HF.out]), grownBy_ext ((Ext.refl _).alloc _) _, by rw [HF.out]; exact HS.out.alloc _⟩
  cases hst : v.st
  · cases hok : okF v.fc
    · have hf : addOf P v op0 = 5 := by simp [addOf, h1, hst, hok]
      have HF := Lib.hid hf; clear hf
      go_enter Tryz.func11, Tryz.ntmps11
      go_wp2_with (first | (go_at_call 33; refine (valid_any v.fc _ hs).mono ?_; rintro e w1 ⟨rfl, hx⟩; obtain ⟨hc, hf⟩ := hx.cells; have hz1 : w.heap.size < w1.heap.size := (by have a1 := hx.lt; simp at a1; omega)))
      go_ret
      exact ⟨ret_int (by rw [HF.out]), grownBy_ext (((Ext.refl _).alloc _).trans hx) _, by rw [HF.out]; exact (HS.out.alloc _).ext hx⟩
    · by_cases h3 : v.op < op0
      · have hf : addOf P v op0 = 12 := by simp [addOf, h1, hst, hok, h3]
        have HF := Lib.hid hf; clear hf
        go_enter Tryz.func11, Tryz.ntmps11
        go_wp2_with (first | (go_at_call 33; refine (valid_any v.fc _ hs).mono ?_; rintro e w1 ⟨rfl, hx⟩; obtain ⟨hc, hf⟩ := hx.cells; have hz1 : w.heap.size < w1.heap.size := (by have a1 := hx.lt; simp at a1; omega)))
        go_ret
        exact ⟨ret_int (by rw [HF.out]), grownBy_ext (((Ext.refl _).alloc _).trans hx) _, by rw [HF.out]; exact (HS.out.alloc _).ext hx⟩
      · have hf : addOf P v op0 = 0 := by simp [addOf, h1, hst, hok, h3]
        have HF := Lib.hid hf; clear hf
        go_enter Tryz.func11, Tryz.ntmps11
        go_wp2_with (first | (go_at_call 33; refine (valid_any v.fc _ hs).mono ?_; rintro e w1 ⟨rfl, hx⟩; obtain ⟨hc, hf⟩ := hx.cells; have hz1 : w.heap.size < w1.heap.size := (by have a1 := hx.lt; simp at a1; omega); obtain ⟨w3, hrun, hpm, hg⟩ := ((HS.out.alloc _).ext hx).store v.fc.en (!v.st); have HPM := Lib.hid hpm; clear hpm; rw [hst] at hrun; simp only [Bool.not_false] at hrun))
        go_ret
        exact ⟨ret_int (by rw [HF.out]), ext_grown (((Ext.refl _).alloc _).trans hx) hg, by rw [HF.out]; exact HPM.out⟩
  · cases hin : inB v.fc.en 0 65535
    · have hf : addOf P v op0 = 5 := by simp [addOf, h1, hst, hin]
      have HF := Lib.hid hf; clear hf
      go_enter Tryz.func11, Tryz.ntmps11
      go_wp2_with (first | (go_at_call 32; refine (fin_any _ _ _).mono ?_; rintro e w' ⟨rfl, rfl⟩))
      go_ret
      exact ⟨ret_int (by rw [HF.out]), grownBy_ext ((Ext.refl _).alloc _) _, by rw [HF.out]; exact HS.out.alloc _⟩
    · by_cases h3 : v.op < op0
      · have hf : addOf P v op0 = 12 := by simp [addOf, h1, hst, hin, h3]
        have HF := Lib.hid hf; clear hf
        go_enter Tryz.func11, Tryz.ntmps11
        go_wp2_with (first | (go_at_call 32; refine (fin_any _ _ _).mono ?_; rintro e w' ⟨rfl, rfl⟩))
        go_ret
        exact ⟨ret_int (by rw [HF.out]), grownBy_ext ((Ext.refl _).alloc _) _, by rw [HF.out]; exact HS.out.alloc _⟩
      · have hlk := fun o => (HS.out.alloc o).look v.fc.en
        cases hP : P v.fc.en
        · have hf : addOf P v op0 = 3 := by simp [addOf, h1, hst, hin, h3, hP]
          have HF := Lib.hid hf; clear hf
          go_enter Tryz.func11, Tryz.ntmps11
          go_wp2_with (first | (go_at_call 32; refine (fin_any _ _ _).mono ?_; rintro e w' ⟨rfl, rfl⟩))
          go_ret
          exact ⟨ret_int (by rw [HF.out]), grownBy_ext ((Ext.refl _).alloc _) _, by rw [HF.out]; exact HS.out.alloc _⟩
        · have hf : addOf P v op0 = 0 := by simp [addOf, h1, hst, hin, h3, hP]
          have HF := Lib.hid hf; clear hf
          obtain ⟨w3, hrun, hpm, hg⟩ := (HS.out.alloc (.cells #[.int .i64 v.op, .bool true, .int .i64 v.fc.en, .string v.fc.kd, .int .i64 v.fc.day, .int .i64 v.fc.byy, .int .i64 v.fc.too, .int .i64 v.fc.am] 26)).store v.fc.en false
          have HPM := Lib.hid hpm; clear hpm
          go_enter Tryz.func11, Tryz.ntmps11
          go_wp2_with (first | (go_at_call 32; refine (fin_any _ _ _).mono ?_; rintro e w' ⟨rfl, rfl⟩))
          go_ret
          exact ⟨ret_int (by rw [HF.out]), ext_grown ((Ext.refl _).alloc _) hg, by rw [HF.out, hst]; exact HPM.out⟩
end Go.Proofs.YtngjghblpbdciaaGreatDoor.Fa

/- The contracts of facts.of, facts.Check. -/
namespace Go.Proofs.YtngjghblpbdciaaGreatDoor.Fa
open Go Go.RowKit

def OfPost (l : List Vr) (w : World) (e : Ending) (w' : World) : Prop :=
  (checkOf l = 0 ∧ (∃ b, w.heap.size ≤ b ∧ e = .returned (.tuple #[.map (some b), .int .i64 (opOf l l.length), .int .i64 0]) ∧ PM w' b (presOf l)) ∨ checkOf l ≠ 0 ∧ e = .returned (.tuple #[.map none, .int .i64 0, .int .i64 (checkOf l)])) ∧ Ext w w'

theorem grown_ext {w w1 w2 : World} {b : Nat} (h : Ext w w1) (hg : w1.grownBy w2 (some b)) (hb : w.heap.size ≤ b) : Ext w w2 := h.grown hg (fun k e => by cases e; exact hb)
theorem PM.made (w : World) : PM (w.alloc (.map #[] 0)) w.heap.size (presOf []) := ⟨[], IMp.made w, fun _ => rfl⟩

set_option maxRecDepth 100000 in
set_option maxHeartbeats 2000000 in
theorem of_any (A : Option Addr) (n c : Nat) (l : List Vr) (w : World) (hl : n ≤ 1000) (h : SV w w.heap.size A n l) (hs : ∀ k, k < n → (vat l k).fc.kd.size ≤ maxLen) :
    Calls Tryz.prog 10 #[.slice A n c] w (OfPost l w) := by
  obtain rfl : l.length = n := h.1
  have HS := Lib.hid h; clear h
  have HK := Lib.hid hs; clear hs
  have hmm := @run_makeMap Tryz.prog
  go_enter Tryz.func10, Tryz.ntmps10
  go_wp2
  clear hmm
  go_loopw [6, 13] (fun o i wr => ∃ k : Nat, k ≤ l.length ∧ o = .int .i64 (opOf l k) ∧ i = .int .i64 k ∧ checkAux l k = 0 ∧ PM wr w.heap.size (presOf (l.take k)) ∧ Ext w wr) (fun _ i _ => l.length - (intOf i).toNat)
  case atStart => exact ⟨0, Nat.zero_le _, rfl, rfl, rfl, PM.made w, (Ext.refl _).alloc _⟩
  case round =>
    obtain ⟨k, hk, rfl, rfl, hc, hpm, hx⟩ := hrel
    have HC := Lib.hid hc; clear hc
    have HP := Lib.hid hpm; clear hpm
    by_cases hlt : k < l.length
    · have hlt' : (k : Int) < l.length := by omega
      obtain ⟨b, off, rfl, hb, c0, c1, c2, c3, c4, c5, c6, c7⟩ := SV.at_ (SV.lift HS.out (Nat.le_refl _) hx) (k := k) hlt
      go_wp2_with fail
      refine (add_any (presOf (l.take k)) w.heap.size (vat l k) (opOf l k) _ (HP.out.alloc _) (HK.out k hlt)).mono ?_
      rintro e w1 ⟨rfl, hg, hpm1⟩
      have hcell : w1.cell? ⟨wr.heap.size, 0, none⟩ = some (.int .i64 (vat l k).op) := by
        refine (World.cell?_of_block (hg.block _ (by simp) (fun e => ?_))).trans (by simp)
        have := HP.out.lt
        simp at e
        omega
      have hx1 : Ext w w1 := grown_ext (hx.alloc _) hg (Nat.le_refl _)
      have hst := check_step hlt HC.out
      have hbad := check_stop hlt HC.out
      have hop : opOf l (k + 1) = (vat l k).op := by simp [opOf]
      have HOP := Lib.hid hop; clear hop
      revert hst hbad hpm1
      rw [add_is_wrong l k hk]
      generalize wrongOf (l.take k) (vat l k) = e0
      intro hpm1 hst hbad
      have HST := Lib.hid hst; clear hst
      have HB := Lib.hid hbad; clear hbad
      have HPM := Lib.hid hpm1; clear hpm1
      by_cases he : e0 = 0
      · subst he
        have hp2 := HPM.out
        rw [if_pos rfl, ← presOf_step l k hlt] at hp2
        have HP2 := Lib.hid hp2; clear hp2
        go_wp2
        exact ⟨⟨k + 1, by omega, by rw [HOP.out], by go_num, HST.out, HP2.out, hx1⟩, by simp [intOf]; omega⟩
      · have hb1 : (e0 == 0) = false := by simpa using he
        have hb2 : (e0 != 0) = true := by simpa using he
        have HE := Lib.hid he; clear he
        go_wp2
        go_ret3
        have hbad := HB.out HE.out
        exact ⟨.inr ⟨by rw [hbad]; exact HE.out, by rw [hbad]; rfl⟩, hx1⟩
    · obtain rfl : k = l.length := by omega
      have hp2 := HP.out
      rw [List.take_length] at hp2
      have HP2 := Lib.hid hp2; clear hp2
      go_wp2
      go_ret3
      exact ⟨.inl ⟨HC.out, w.heap.size, Nat.le_refl _, rfl, HP2.out⟩, hx⟩

set_option maxRecDepth 100000 in
set_option maxHeartbeats 1000000 in
theorem check_any (A : Option Addr) (n c : Nat) (l : List Vr) (w : World) (hl : n ≤ 1000) (h : SV w w.heap.size A n l) (hs : ∀ k, k < n → (vat l k).fc.kd.size ≤ maxLen) :
    Calls Tryz.prog 8 #[.slice A n c] w fun e w' => e = .returned (.int .i64 (checkOf l)) ∧ Ext w w' := by
  have H30 := Lib.hid (of_any A n c l w hl h hs); clear h hs
  go_enter Tryz.func8, Tryz.ntmps8
  go_wp2_with fail
  refine H30.out.mono ?_
  rintro e w1 ⟨⟨hc, b, hb, rfl, hpm⟩ | ⟨hc, rfl⟩, hx⟩
  · have HC := Lib.hid hc; clear hc
    go_wp2
    go_ret
    exact ⟨ret_int HC.out.symm, by first | exact hx | exact hx.alloc _⟩
  · clear hc
    go_wp2
    go_ret
    exact ⟨rfl, by first | exact hx | exact hx.alloc _⟩
end Go.Proofs.YtngjghblpbdciaaGreatDoor.Fa

/- The contracts of slices.Clone on versions, rollbookref18.Append and facts.Append. -/
namespace Go.Proofs.YtngjghblpbdciaaGreatDoor.Fa
open Go Go.RowKit

def ClonePost (l : List Vr) (w : World) (e : Ending) (w' : World) : Prop := ∃ A c, e = .returned (.slice A l.length c) ∧ OV w' w.heap.size (.slice A l.length c) l ∧ Ext w w'

theorem own_empty (w : World) : OV (w.alloc (.cells #[] 26)) w.heap.size (.slice (some ⟨w.heap.size, 0, none⟩) 0 0) [] := World.ownsRow_made w #[] 0 (Nat.le_refl _) (by simp [maxLen]) rfl

set_option maxRecDepth 100000 in
set_option maxHeartbeats 1000000 in
theorem clone_any (A : Option Addr) (n c : Nat) (l : List Vr) (w : World) (hl : n ≤ 1000) (h : SV w w.heap.size A n l) :
    Calls Tryz.prog 12 #[.slice A n c] w (ClonePost l w) := by
  obtain rfl : l.length = n := h.1
  have HS := Lib.hid h; clear h
  have hk := fun (w : World) (a : Option Addr) (n c : Nat) => Lib.run_eql_slice_nil (P := Tryz.prog) w 27 26 a n c 0 0 Tryz.underlying27
  cases A with
  | none =>
    have h0 : l = [] := by
      rcases Nat.eq_zero_or_pos l.length with h | h
      · exact List.eq_nil_of_length_eq_zero h
      · obtain ⟨b, off, e, _⟩ := HS.out.2 h; cases e
    subst h0
    go_enter Tryz.func12, Tryz.ntmps12
    go_wp2
    go_ret
    exact ⟨none, 0, rfl, OV.nil _ _, Ext.refl _⟩
  | some ad =>
    obtain ⟨A', c', w', hrun, hown, hb, _⟩ := (own_empty w).append (SV.ext HS.out ((Ext.refl w).alloc (.cells #[] 26)) (Nat.le_refl _)) c (by simp; omega) (by simp)
    simp only [List.length_nil, Nat.zero_add, List.nil_append] at hrun hown
    have HO := Lib.hid hown; clear hown
    have hx : Ext w w' := Below.trans ((Ext.refl w).alloc (.cells #[] 26)) (hb _ (Nat.le_refl _))
    go_enter Tryz.func12, Tryz.ntmps12
    go_wp2_with (at_builtin; refine wpList_append_run hrun rfl rfl rfl rfl rfl ?_)
    go_ret
    exact ⟨A', c', rfl, HO.out, hx⟩
end Go.Proofs.YtngjghblpbdciaaGreatDoor.Fa

/- The contracts of rollbookref18.Append and facts.Append. -/
namespace Go.Proofs.YtngjghblpbdciaaGreatDoor.Fa
open Go Go.RowKit

theorem OV.alloc {w : World} {base : Nat} {v : Value} {l : List Vr} (h : OV w base v l) (o : Obj) : OV (w.alloc o) base v l := World.ownsRow.alloc h o
theorem OV.drew {w : World} {base : Nat} {v : Value} {l : List Vr} (h : OV w base v l) : OV w.drew base v l := h

/-- The eight cells of a version in a block of its own. -/
def VBox (w : World) (X : Nat) (v : Vr) : Prop := w.cell? ⟨X, 0, none⟩ = some (.int .i64 v.op) ∧ w.cell? ⟨X, 1, none⟩ = some (.bool v.st) ∧ w.cell? ⟨X, 2, none⟩ = some (.int .i64 v.fc.en) ∧ w.cell? ⟨X, 3, none⟩ = some (.string v.fc.kd) ∧
  w.cell? ⟨X, 4, none⟩ = some (.int .i64 v.fc.day) ∧ w.cell? ⟨X, 5, none⟩ = some (.int .i64 v.fc.byy) ∧ w.cell? ⟨X, 6, none⟩ = some (.int .i64 v.fc.too) ∧ w.cell? ⟨X, 7, none⟩ = some (.int .i64 v.fc.am)
theorem VBox.of {w : World} {X : Nat} {v : Vr} (h : ∀ j, w.cell? ⟨X, j, none⟩ = (#[.int .i64 v.op, .bool v.st, .int .i64 v.fc.en, .string v.fc.kd, .int .i64 v.fc.day, .int .i64 v.fc.byy, .int .i64 v.fc.too, .int .i64 v.fc.am] : Array Value)[j]?) : VBox w X v :=
  ⟨h 0, h 1, h 2, h 3, h 4, h 5, h 6, h 7⟩
theorem VBox.ext {w w' : World} {X : Nat} {v : Vr} (h : VBox w X v) (hX : X < w.heap.size) (hx : Ext w w') : VBox w' X v := by
  obtain ⟨a, b, c, d, e, f, g, i⟩ := h
  have k := fun j => hx.cells.1 X j hX
  exact ⟨(k 0).trans a, (k 1).trans b, (k 2).trans c, (k 3).trans d, (k 4).trans e, (k 5).trans f, (k 6).trans g, (k 7).trans i⟩
theorem VBox.drew {w : World} {X : Nat} {v : Vr} (h : VBox w X v) : VBox w.drew X v := h
theorem VBox.alloc {w : World} {X : Nat} {v : Vr} (h : VBox w X v) (hX : X < w.heap.size) (o : Obj) : VBox (w.alloc o) X v := h.ext hX ((Ext.refl w).alloc o)

theorem SV.drew {w : World} {B : Nat} {A : Option Addr} {n : Nat} {l : List Vr} (h : SV w B A n l) : SV w.drew B A n l := h
theorem le_alloc {w : World} {n : Nat} (h : n ≤ w.heap.size) (o : Obj) : n ≤ (w.alloc o).heap.size := by simp; omega
theorem lt_alloc {w : World} {n : Nat} (h : n < w.heap.size) (o : Obj) : n < (w.alloc o).heap.size := by simp; omega
theorem OV.base {w : World} {base base' : Nat} {v : Value} {l : List Vr} (h : OV w base v l) (hb : base' ≤ base) : OV w base' v l :=
  ⟨h.1, h.2.imp id fun ⟨g, cap, cur, e, hg, rest⟩ => ⟨g, cap, cur, e, Nat.le_trans hb hg, rest⟩⟩
theorem OF.base {w : World} {base base' : Nat} {v : Value} {l : List Fc} (h : OF w base v l) (hb : base' ≤ base) : OF w base' v l :=
  ⟨h.1, h.2.imp id fun ⟨g, cap, cur, e, hg, rest⟩ => ⟨g, cap, cur, e, Nat.le_trans hb hg, rest⟩⟩

def AppPost (l : List Vr) (v : Vr) (w : World) (e : Ending) (w' : World) : Prop :=
  (wrongOf l v ≠ 0 ∧ e = .returned (.tuple #[.slice none 0 0, .int .i64 (wrongOf l v)]) ∨
   wrongOf l v = 0 ∧ ∃ A c, e = .returned (.tuple #[.slice A (l.length + 1) c, .int .i64 0]) ∧ OV w' w.heap.size (.slice A (l.length + 1) c) (l ++ [v])) ∧ Ext w w'

set_option maxRecDepth 100000 in
set_option maxHeartbeats 1000000 in
theorem pappend_any (A : Option Addr) (n c : Nat) (l : List Vr) (v : Vr) (w : World) (hl : n ≤ 1000) (h : SV w w.heap.size A n l) (hs : v.fc.kd.size ≤ maxLen) (hks : ∀ k, k < n → (vat l k).fc.kd.size ≤ maxLen) (hok : checkOf l = 0) :
    Calls Tryz.prog 5 #[.slice A n c, v.val] w (AppPost l v w) := by
  obtain rfl : l.length = n := h.1
  have HS := Lib.hid h; clear h
  have HK := Lib.hid hks; clear hks
  have HOK := Lib.hid hok; clear hok
  unfold Vr.val
  go_enter Tryz.func5, Tryz.ntmps5
  go_wp2_with fail
  refine (of_any _ _ c l _ hl (SV.lift HS.out (Nat.le_refl _) ((Ext.refl _).alloc _)) HK.out).mono ?_
  rintro e w1 ⟨⟨hc, b, hb, rfl, hpm⟩ | ⟨hc, rfl⟩, hx1⟩
  case inr => exact absurd HOK.out hc
  clear hc
  have hx2 : Ext w w1 := ((Ext.refl w).alloc _).trans hx1
  obtain ⟨hc1, hf1⟩ := hx1.cells
  have hz1 : w.heap.size < w1.heap.size := (by have a1 := hx1.lt; simp at a1; omega)
  have hbb : w.heap.size < b := by simp at hb; omega
  have HPM := Lib.hid hpm; clear hpm hb
  go_wp2_with fail
  refine (add_any (presOf l) b v (opOf l l.length) _ HPM.out hs).mono ?_
  rintro e w2 ⟨rfl, hg, _⟩
  have hx3 : Ext w w2 := grown_ext hx2 hg (by omega)
  have hcells : ∀ j, w2.cell? ⟨w.heap.size, j, none⟩ = w1.cell? ⟨w.heap.size, j, none⟩ := fun j => World.cell?_of_block (hg.block _ hz1 (fun e => by simp at e; omega))
  rw [addOf_eq]
  have HP : ∀ e w', AppPost l v w e w' = ((wrongOf l v ≠ 0 ∧ e = .returned (.tuple #[.slice none 0 0, .int .i64 (wrongOf l v)]) ∨
   wrongOf l v = 0 ∧ ∃ A c, e = .returned (.tuple #[.slice A (l.length + 1) c, .int .i64 0]) ∧ OV w' w.heap.size (.slice A (l.length + 1) c) (l ++ [v])) ∧ Ext w w') := fun _ _ => rfl
  have HP1 := Lib.hid HP; clear HP
  revert HP1
  generalize wrongOf l v = e0
  intro HP1
  by_cases he : e0 = 0
  · subst he
    have HCL : ∀ W : World, Ext w W → Calls Tryz.prog 12 #[.slice A l.length c] W (ClonePost l W) := fun W hW => clone_any A l.length c l W hl (SV.lift HS.out (Nat.le_refl _) hW)
    have HCL2 := Lib.hid HCL; clear HCL
    have hv2 : VBox w2 w.heap.size v := VBox.of fun j => (hcells j).trans ((hc1 _ _ (by simp)).trans (by rw [cell_of_row _ w.heap.size _ _ 26 (0, 0) (heap_alloc_new w _)]))
    have HV2 := Lib.hid hv2
    obtain ⟨g1, g2, g3, g4, g5, g6, g7, g8⟩ := hv2
    have hz2 : w.heap.size < w2.heap.size := Nat.lt_of_lt_of_le hz1 hg.size
    clear hcells hc1 hf1 hg hx1 hx2
    go_wp2_with fail
    go_region_law (first | (go_simp; go_at_call 12; refine (HCL2.out _ (by first | exact hx3.drew | exact hx3.drew.alloc _)).mono ?_; rintro e W ⟨A1, c1, rfl, hown, hxc⟩; have HO := Lib.hid hown; clear hown; obtain ⟨e1, e2, e3, e4, e5, e6, e7, e8⟩ := VBox.ext (v := v) (X := w.heap.size) (by first | exact HV2.out.drew | exact HV2.out.drew.alloc hz2 _) (by first | exact hz2 | exact lt_alloc hz2 _) hxc; simp only []) | (have tg : Ext w2.drew W := (by with_reducible exact hxc); clear tg; obtain ⟨A2, c2, w3, hrun2, hown2, hb2, _⟩ := (OV.alloc HO.out (.cells #[.int .i64 v.op, .bool v.st, .int .i64 v.fc.en, .string v.fc.kd, .int .i64 v.fc.day, .int .i64 v.fc.byy, .int .i64 v.fc.too, .int .i64 v.fc.am] 26)).append (SV.one W v 26) 1 (by omega) (le_alloc hxc.lt _); refine step_append_run (s := .tmp 27) (x := .tmp 29) hrun2 rfl rfl rfl rfl rfl ?_; have HO2 := Lib.hid hown2; have hx4 : Ext w w3 := Below.trans (Ext.alloc (Ext.trans hx3.drew hxc) _) (hb2 _ hx3.lt); clear hown2 hrun2) | (obtain ⟨A2, c2, w3, hrun2, hown2, hb2, _⟩ := HO.out.append (SV.ext (SV.drew (SV.one w2 v 26)) hxc (by simp)) 1 (by omega) hxc.lt; refine step_append_run (s := .tmp 27) (x := .tmp 29) hrun2 rfl rfl rfl rfl rfl ?_; have HO2 := Lib.hid hown2; have hx4 : Ext w w3 := Below.trans (Ext.trans (Ext.alloc hx3 _).drew hxc) (hb2 _ (le_alloc hx3.lt _)); clear hown2 hrun2))
    all_goals
      go_wp2
      go_ret2
      rw [HP1.out]
      exact ⟨.inr ⟨(by trivial), A2, c2, rfl, HO2.out.base (by first | exact hx3.lt | exact le_alloc hx3.lt _)⟩, hx4⟩
  · have hb1 : (e0 == 0) = false := by simpa using he
    have hb2 : (e0 != 0) = true := by simpa using he
    have HE := Lib.hid he; clear he
    clear hg hx1 hx2
    go_wp2
    go_ret2
    rw [HP1.out]
    exact ⟨.inl ⟨HE.out, rfl⟩, hx3⟩
end Go.Proofs.YtngjghblpbdciaaGreatDoor.Fa

/- The contracts of the makers: rollbookref03.Around, Pick, rollbookref13.Kind, rollbookref18.Fact: what they return lies in the bounds that the statements use. -/
namespace Go.Proofs.YtngjghblpbdciaaGreatDoor.Fa
open Go Go.RowKit

/-- A slice of ints. -/
def SI (w : World) (B : Nat) (A : Option Addr) (n : Nat) (f : Nat → Int) : Prop := Sl w B A n 1 (fun i => [.int .i64 (f i)]) ∧ ∀ i, i < n → -9223372036854775808 ≤ f i ∧ f i ≤ 9223372036854775807
theorem SI.at_ {w : World} {B : Nat} {A : Option Addr} {n : Nat} {f : Nat → Int} (h : SI w B A n f) {k : Nat} (hk : k < n) : ∃ b off, A = some ⟨b, off, none⟩ ∧ b < B ∧ w.cell? ⟨b, off + k, none⟩ = some (.int .i64 (f k)) := by
  obtain ⟨b, off, e, hb, hc⟩ := h.1 (by omega)
  exact ⟨b, off, e, hb, by simpa using hc k hk 0 _ rfl⟩
theorem SI.ext {w w' : World} {B : Nat} {A : Option Addr} {n : Nat} {f : Nat → Int} (h : SI w B A n f) (hx : Ext w w') (hB : B ≤ w.heap.size) : SI w' B A n f := ⟨h.1.ext hx hB, h.2⟩
theorem SI.lift {w w' : World} {B : Nat} {A : Option Addr} {n : Nat} {f : Nat → Int} (h : SI w B A n f) (hB : B ≤ w.heap.size) (hx : Ext w w') : SI w' w'.heap.size A n f := ⟨(h.1.ext hx hB).more (Nat.le_trans hB hx.lt), h.2⟩

/-- Block g is just the cells cs, none of them frozen. -/
def Bk (w : World) (g : Nat) (t : TypeId) (cs : Array Value) : Prop := w.heap[g]? = some (.cells cs t (0, 0))
theorem Bk.lt {w : World} {g : Nat} {t : TypeId} {cs : Array Value} (h : Bk w g t cs) : g < w.heap.size := lt_of_block h
theorem Bk.new (w : World) (t : TypeId) (cs : Array Value) : Bk (w.alloc (.cells cs t)) w.heap.size t cs := heap_alloc_new w _
theorem Bk.ext {w w' : World} {g : Nat} {t : TypeId} {cs : Array Value} (h : Bk w g t cs) (hx : Ext w w') : Bk w' g t cs := (hx.block g h.lt).trans h
theorem Bk.grown {w w' : World} {g : Nat} {t : TypeId} {cs : Array Value} {row : Option Nat} (h : Bk w g t cs) (hg : w.grownBy w' row) (hr : some g ≠ row) : Bk w' g t cs := (hg.block g h.lt hr).trans h
theorem Bk.alloc {w : World} {g : Nat} {t : TypeId} {cs : Array Value} (h : Bk w g t cs) (o : Obj) : Bk (w.alloc o) g t cs := (Below.heap_alloc w o g h.lt).trans h
theorem Bk.drewN {w : World} {g : Nat} {t : TypeId} {cs : Array Value} (h : Bk w g t cs) (n : Nat) : Bk (w.drewN n) g t cs := h
theorem Bk.drew {w : World} {g : Nat} {t : TypeId} {cs : Array Value} (h : Bk w g t cs) : Bk w.drew g t cs := h
theorem Bk.set {w : World} {g : Nat} {t : TypeId} {cs : Array Value} (h : Bk w g t cs) (i : Nat) (u : Value) : Bk (w.setCell ⟨g, i, none⟩ u) g t (cs.setIfInBounds i u) := by
  unfold Bk at h ⊢
  simp [World.setCell, Array.getElem?_modify, h]
theorem Bk.far {w : World} {g : Nat} {t : TypeId} {cs : Array Value} (h : Bk w g t cs) {p : Addr} (hp : g ≠ p.block) (u : Value) : Bk (w.setCell p u) g t cs := (Below.heap_setCell w p u g hp).trans h
theorem Bk.cells {w : World} {g : Nat} {t : TypeId} {cs : Array Value} (h : Bk w g t cs) : (∀ i, w.cell? ⟨g, i, none⟩ = cs[i]?) ∧ (∀ i, w.frozen? ⟨g, i, none⟩ = false) := by
  unfold Bk at h
  exact ⟨fun i => cell_of_row w g i cs t (0, 0) h, fun i => by simp [World.frozen?, h]⟩

end Go.Proofs.YtngjghblpbdciaaGreatDoor.Fa

/- Plain lists, continued: valid lists grow by valid versions. -/
namespace Go.Proofs.YtngjghblpbdciaaGreatDoor.Fa

theorem vat_append_left {a b : List Vr} {k : Nat} (h : k < a.length) : vat (a ++ b) k = vat a k := by simp [vat, List.getElem?_append_left h]
theorem vat_append_last (a : List Vr) (v : Vr) : vat (a ++ [v]) a.length = v := by simp [vat]
theorem checkAux_append (a b : List Vr) : ∀ k, k ≤ a.length → checkAux (a ++ b) k = checkAux a k
  | 0, _ => rfl
  | k + 1, h => by
    have ih := checkAux_append a b k (by omega)
    simp only [checkAux, ih]
    have h1 : k < (a ++ b).length := by simp; omega
    have h2 : k < a.length := by omega
    rw [if_pos h1, if_pos h2, vat_append_left h2, List.take_append_of_le_length (by omega)]
theorem checkOf_snoc (a : List Vr) (v : Vr) (h : checkOf a = 0) : checkOf (a ++ [v]) = wrongOf a v := by
  have e : checkOf (a ++ [v]) = checkAux (a ++ [v]) (a.length + 1) := by simp [checkOf]
  have h0 : checkAux (a ++ [v]) a.length = 0 := by rw [checkAux_append a [v] a.length (Nat.le_refl _)]; exact h
  rw [e, check_step (by simp) h0, vat_append_last]
  simp

/-- A list of versions as the statements make them: valid, with valid facts of the entries 0 to 5, up to the operation 'top'. -/
structure GoodV (l : List Vr) (top : Int) : Prop where
  ok : checkOf l = 0
  fact : ∀ k, k < l.length → okF (vat l k).fc = true ∧ 0 ≤ (vat l k).fc.en ∧ (vat l k).fc.en ≤ 5
  ops : ∀ k, k < l.length → 0 ≤ (vat l k).op ∧ (vat l k).op ≤ top
theorem GoodV.nil : GoodV [] 0 := ⟨rfl, fun k h => absurd h (by simp), fun k h => absurd h (by simp)⟩
theorem GoodV.snoc {l : List Vr} {top op : Int} {v : Vr} (h : GoodV l top) (h0 : 0 ≤ op) (ht : top ≤ op) (hv : v.op = op) (hf : okF v.fc = true) (h1 : 0 ≤ v.fc.en) (h2 : v.fc.en ≤ 5) (hw : wrongOf l v = 0) : GoodV (l ++ [v]) op := by
  have key : ∀ k, k < (l ++ [v]).length → (k < l.length ∧ vat (l ++ [v]) k = vat l k) ∨ vat (l ++ [v]) k = v := fun k hk => by
    by_cases hl : k < l.length
    · exact .inl ⟨hl, vat_append_left hl⟩
    · obtain rfl : k = l.length := by simp at hk; omega
      exact .inr (vat_append_last l v)
  refine ⟨by rw [checkOf_snoc l v h.ok]; exact hw, fun k hk => ?_, fun k hk => ?_⟩
  · rcases key k hk with ⟨hl, e⟩ | e
    · rw [e]; exact h.fact k hl
    · rw [e]; exact ⟨hf, h1, h2⟩
  · rcases key k hk with ⟨hl, e⟩ | e
    · rw [e]; have := h.ops k hl; omega
    · rw [e, hv]; omega
theorem okF_in {f : Fc} (h : okF f = true) : inB f.en 0 65535 = true := by simp only [okF, Bool.and_eq_true] at h; exact h.1
theorem GoodV.plain {l : List Vr} {top : Int} {v : Vr} (h : GoodV l top) (h0 : 0 ≤ v.op) (ht : top ≤ v.op) (hf : okF v.fc = true) (hs : v.st = false) : wrongOf l v = 0 := by
  rw [wrongOf_end (by omega) (by simp [hf]) (okF_in hf) (fun hh => by have := h.ops (l.length - 1) (by omega); omega)]
  simp [hs]
end Go.Proofs.YtngjghblpbdciaaGreatDoor.Fa

/- The contract of rollbookref18.Versions: a valid list of up to 40 versions in memory of its own. -/
namespace Go.Proofs.YtngjghblpbdciaaGreatDoor.Fa
open Go Go.RowKit

theorem OV.ext {w w' : World} {base : Nat} {v : Value} {l : List Vr} (h : OV w base v l) (hx : Ext w w') : OV w' base v l :=
  World.ownsRow.kept h (row := none) (grownBy_ext hx none) (by cases hv : v.ownBlock <;> simp)
theorem OF.ext {w w' : World} {base : Nat} {v : Value} {l : List Fc} (h : OF w base v l) (hx : Ext w w') : OF w' base v l :=
  World.ownsRow.kept h (row := none) (grownBy_ext hx none) (by cases hv : v.ownBlock <;> simp)
theorem SI.drop {w : World} {B : Nat} {A : Option Addr} {n : Nat} {f : Nat → Int} (h : SI w B A n f) {k : Nat} (hk : k ≤ n) : SI w B (A.map (·.add k)) (n - k) (fun i => f (k + i)) := by
  refine ⟨fun h0 => ?_, fun i hi => h.2 (k + i) (by omega)⟩
  obtain ⟨b, off, rfl, hb, hc⟩ := h.1 (by omega)
  refine ⟨b, off + k, by simp [Addr.add_lit], hb, fun i hi j u hu => ?_⟩
  have := hc (k + i) (by omega) j u hu
  rwa [show off + (k + i) * 1 + j = off + k + i * 1 + j by omega] at this

theorem Ext.of_drew {w w' : World} (h : Ext w.drew w') : Ext w w' := ⟨h.os, h.tape, h.output, h.size, h.block⟩
end Go.Proofs.YtngjghblpbdciaaGreatDoor.Fa

/- slices.SortFunc on at most 12 facts, by their entries: the contract, through insertion sort. -/
namespace Go.Proofs.YtngjghblpbdciaaGreatDoor.Fa
open Go Go.RowKit

def CmpPost (a b : Int) (w : World) (e : Ending) (w' : World) : Prop := ∃ r : Int, e = .returned (.int .i64 r) ∧ -1 ≤ r ∧ r ≤ 1 ∧ (r < 0 ↔ a < b) ∧ Ext w w'
theorem isnan_any (x : Int) (w : World) : Calls Tryz.prog 71 #[.int .i64 x] w fun e w' => e = .returned (.bool false) ∧ w = w' := by
  go_enter Tryz.func71, Tryz.ntmps71
  go_wp2
  go_ret
  exact ⟨ret_bool (by simp), rfl⟩
theorem compare_any (a b : Int) (w : World) : Calls Tryz.prog 50 #[.int .i64 a, .int .i64 b] w (CmpPost a b w) := by
  by_cases h : a < b
  · go_enter Tryz.func50, Tryz.ntmps50
    go_wp2_with (first | (go_at_call 71; refine (isnan_any _ _).mono ?_; rintro e w' ⟨rfl, rfl⟩))
    go_ret
    exact ⟨-1, rfl, by omega, by omega, by omega, Ext.refl _⟩
  · by_cases h2 : b < a
    · go_enter Tryz.func50, Tryz.ntmps50
      go_wp2_with (first | (go_at_call 71; refine (isnan_any _ _).mono ?_; rintro e w' ⟨rfl, rfl⟩))
      go_ret
      exact ⟨1, rfl, by omega, by omega, by omega, Ext.refl _⟩
    · go_enter Tryz.func50, Tryz.ntmps50
      go_wp2_with (first | (go_at_call 71; refine (isnan_any _ _).mono ?_; rintro e w' ⟨rfl, rfl⟩))
      go_ret
      exact ⟨0, rfl, by omega, by omega, by omega, Ext.refl _⟩
theorem cmp_any (f g : Fc) (w : World) : Calls Tryz.prog 49 #[f.val, g.val] w (CmpPost f.en g.en w) := by
  unfold Fc.val
  go_enter Tryz.func49, Tryz.ntmps49
  go_wp2_with (first | (go_at_call 50; refine (compare_any _ _ _).mono ?_; rintro e w1 ⟨r, rfl, h1, h2, h3, hx⟩; have H3 := Lib.hid h3; clear h3))
  go_ret
  exact ⟨r, rfl, h1, h2, H3.out, ((Ext.refl w).alloc _ |>.alloc _).trans hx⟩

theorem fcells_set (l : List Fc) (f : Fc) : ∀ (k : Nat), k < l.length → fcells (l.set k f) = ((((((fcells l).set (k * 6) (.int .i64 f.en)).set (k * 6 + 1) (.string f.kd)).set (k * 6 + 2) (.int .i64 f.day)).set (k * 6 + 3) (.int .i64 f.byy)).set (k * 6 + 4) (.int .i64 f.too)).set (k * 6 + 5) (.int .i64 f.am) := by
  induction l with
  | nil => intro k h; simp at h
  | cons x l ih =>
    intro k h
    cases k with
    | zero => rfl
    | succ k =>
      have ih' := ih k (by simpa using h)
      simp only [fcells, List.set_cons_succ, List.flatMap_cons] at ih' ⊢
      rw [ih']
      have e0 : (k + 1) * 6 = (k * 6) + 1 + 1 + 1 + 1 + 1 + 1 := by omega
      simp only [Fc.cells, List.cons_append, List.nil_append, e0, List.set_cons_succ]

theorem OF.at_ {w : World} {base g cap n : Nat} {l : List Fc} (h : OF w base (.slice (some ⟨g, 0, none⟩) n cap) l) (hn : l.length = n) {k : Nat} (hk : k < n) :
    (w.cell? ⟨g, k * 6, none⟩ = some (.int .i64 (fat l k).en) ∧ w.cell? ⟨g, k * 6 + 1, none⟩ = some (.string (fat l k).kd) ∧ w.cell? ⟨g, k * 6 + 2, none⟩ = some (.int .i64 (fat l k).day) ∧ w.cell? ⟨g, k * 6 + 3, none⟩ = some (.int .i64 (fat l k).byy) ∧
    w.cell? ⟨g, k * 6 + 4, none⟩ = some (.int .i64 (fat l k).too) ∧ w.cell? ⟨g, k * 6 + 5, none⟩ = some (.int .i64 (fat l k).am)) := by
  subst hn
  have c : ∀ j, j < 6 → w.cell? ⟨g, k * 6 + j, none⟩ = (fat l k).cells[j]? := fun j hj => by
    rw [World.ownsRow.cellAt h (k * 6 + j) (by omega)]; exact fcells_at l k hk j hj
  exact ⟨c 0 (by omega), c 1 (by omega), c 2 (by omega), c 3 (by omega), c 4 (by omega), c 5 (by omega)⟩
theorem OF.frozen {w : World} {base g cap n : Nat} {l : List Fc} (h : OF w base (.slice (some ⟨g, 0, none⟩) n cap) l) (hn : l.length = n) : ∀ i, w.frozen? ⟨g, i, none⟩ = false := by
  subst hn; exact World.ownsRow.frozenAt h
theorem OF.put {w : World} {base g cap n : Nat} {l : List Fc} (h : OF w base (.slice (some ⟨g, 0, none⟩) n cap) l) (hn : l.length = n) {k : Nat} (hk : k < n) (f : Fc) :
    OF ((((((w.setCell ⟨g, k * 6, none⟩ (.int .i64 f.en)).setCell ⟨g, k * 6 + 1, none⟩ (.string f.kd)).setCell ⟨g, k * 6 + 2, none⟩ (.int .i64 f.day)).setCell ⟨g, k * 6 + 3, none⟩ (.int .i64 f.byy)).setCell ⟨g, k * 6 + 4, none⟩ (.int .i64 f.too)).setCell ⟨g, k * 6 + 5, none⟩ (.int .i64 f.am))
      base (.slice (some ⟨g, 0, none⟩) n cap) (l.set k f) ∧ w.grownBy ((((((w.setCell ⟨g, k * 6, none⟩ (.int .i64 f.en)).setCell ⟨g, k * 6 + 1, none⟩ (.string f.kd)).setCell ⟨g, k * 6 + 2, none⟩ (.int .i64 f.day)).setCell ⟨g, k * 6 + 3, none⟩ (.int .i64 f.byy)).setCell ⟨g, k * 6 + 4, none⟩ (.int .i64 f.too)).setCell ⟨g, k * 6 + 5, none⟩ (.int .i64 f.am)) (some g) := by
  subst hn
  obtain ⟨h1, g1⟩ := World.ownsRow.stored h (k * 6) (.int .i64 f.en)
  obtain ⟨h2, g2⟩ := World.ownsRow.stored h1 (k * 6 + 1) (.string f.kd)
  obtain ⟨h3, g3⟩ := World.ownsRow.stored h2 (k * 6 + 2) (.int .i64 f.day)
  obtain ⟨h4, g4⟩ := World.ownsRow.stored h3 (k * 6 + 3) (.int .i64 f.byy)
  obtain ⟨h5, g5⟩ := World.ownsRow.stored h4 (k * 6 + 4) (.int .i64 f.too)
  obtain ⟨h6, g6⟩ := World.ownsRow.stored h5 (k * 6 + 5) (.int .i64 f.am)
  have e : ∀ j, some g = some j → w.heap.size ≤ j ∨ some g = some j := fun _ e => .inr e
  refine ⟨?_, ((((g1.andThen g2 e).andThen g3 e).andThen g4 e).andThen g5 e).andThen g6 e⟩
  unfold OF
  rw [fcells_set l f k hk, List.length_set]
  exact h6

theorem OF.drew {w : World} {base : Nat} {v : Value} {l : List Fc} (h : OF w base v l) : OF w.drew base v l := h
theorem grown_drew {a w : World} {row : Option Nat} (h : a.grownBy w row) : a.grownBy w.drew row := ⟨h.os, h.tape, h.output, h.size, h.block⟩

def sw (l : List Fc) (j : Nat) : List Fc := (l.set j (fat l (j - 1))).set (j - 1) (fat l j)
theorem fat_get {l : List Fc} {k : Nat} (h : k < l.length) : l[k] = fat l k := by simp [fat, h]
theorem sw_perm {l : List Fc} {j : Nat} (h : j < l.length) : List.Perm (sw l j) l := by
  have := @List.set_set_perm _ l j (j - 1) h (by omega)
  rw [fat_get h, fat_get (by omega : j - 1 < l.length)] at this
  exact this
theorem sw_at {l : List Fc} {j : Nat} (h0 : j ≠ 0) (h : j < l.length) (a : Nat) : fat (sw l j) a = if a = j - 1 then fat l j else if a = j then fat l (j - 1) else fat l a := by
  unfold fat sw
  by_cases h1 : a = j - 1
  · subst h1; simp [show j - 1 < l.length by omega, fat]
  · by_cases h2 : a = j
    · subst h2; simp [h1, fat, h, show ¬ a - 1 = a by omega]
    · simp [h1, h2, show ¬ j - 1 = a by omega, show ¬ j = a by omega]
theorem sw_step {l : List Fc} {j k : Nat} (h0 : j ≠ 0) (h : j < l.length) (hj : j ≤ k) (hs : ∀ a b, a < b → b < k + 1 → b ≠ j → (fat l a).en ≤ (fat l b).en) (hlt : (fat l j).en < (fat l (j - 1)).en) :
    ∀ a b, a < b → b < k + 1 → b ≠ j - 1 → (fat (sw l j) a).en ≤ (fat (sw l j) b).en := by
  intro a b h1 h2 h3
  rw [sw_at h0 h, sw_at h0 h, if_neg h3]
  by_cases hb : b = j
  · subst hb
    rw [if_pos rfl]
    by_cases ha : a = b - 1
    · rw [if_pos ha]; omega
    · rw [if_neg ha, if_neg (by omega)]; exact hs a (b - 1) (by omega) (by omega) (by omega)
  · rw [if_neg hb]
    by_cases ha : a = j - 1
    · rw [if_pos ha]
      by_cases hbj : b < j
      · omega
      · exact hs j b (by omega) h2 hb
    · rw [if_neg ha]
      by_cases ha2 : a = j
      · rw [if_pos ha2]; exact hs (j - 1) b (by omega) h2 hb
      · rw [if_neg ha2]; exact hs a b h1 h2 hb
theorem ins_done {l : List Fc} {j k n : Nat} (hs : ∀ a b, a < b → b < k + 1 → b ≠ j → (fat l a).en ≤ (fat l b).en) (hlt : j ≠ 0 → ¬ (fat l j).en < (fat l (j - 1)).en) :
    ∀ a b, a < b → b < k + 1 → b < n → (fat l a).en ≤ (fat l b).en := by
  intro a b h1 h2 _
  by_cases hb : b = j
  · subst hb
    have h3 := hlt (by omega)
    by_cases ha : a = b - 1
    · subst ha; omega
    · have := hs a (b - 1) (by omega) (by omega) (by omega); omega
  · exact hs a b h1 h2 hb

def InsPost (l : List Fc) (base g n cap : Nat) (w : World) (e : Ending) (w' : World) : Prop :=
  ∃ m : List Fc, e = .returned (.tuple #[]) ∧ List.Perm m l ∧ (∀ a b, a < b → b < n → (fat m a).en ≤ (fat m b).en) ∧ OF w' base (.slice (some ⟨g, 0, none⟩) n cap) m ∧ w.grownBy w' (some g)

set_option maxRecDepth 100000 in
set_option maxHeartbeats 1000000 in
theorem ins_any (l : List Fc) (base g n cap : Nat) (w : World) (hn : l.length = n) (h12 : n ≤ 12) (h : OF w base (.slice (some ⟨g, 0, none⟩) n cap) l) :
    Calls Tryz.prog 87 #[.slice (some ⟨g, 0, none⟩) n cap, .int .i64 0, .int .i64 n, .func (.func 49) #[] #[]] w (InsPost l base g n cap w) := by
  have HO := Lib.hid h; clear h
  go_enter Tryz.func87, Tryz.ntmps87
  go_wp2
  go_loopw [8] (fun i wr => ∃ (k : Nat) (m : List Fc), 1 ≤ k ∧ i = .int .i64 k ∧ List.Perm m l ∧ (∀ a b, a < b → b < k → b < n → (fat m a).en ≤ (fat m b).en) ∧ OF wr base (.slice (some ⟨g, 0, none⟩) n cap) m ∧ w.grownBy wr (some g)) (fun i _ => n - (intOf i).toNat)
  case atStart => exact ⟨1, l, Nat.le_refl _, rfl, List.Perm.refl _, fun a b h1 h2 _ => absurd h2 (by omega), HO.out, World.grownBy.refl _ _⟩
  case round =>
    obtain ⟨k, m, hk, rfl, hp, hs, hof, hg⟩ := hrel
    have HP := Lib.hid hp; clear hp
    have HSO := Lib.hid hs; clear hs
    have HOF := Lib.hid hof; clear hof
    have HGR := Lib.hid hg; clear hg
    by_cases hlt : k < n
    · go_wp2
      obtain ⟨wo, rfl⟩ : ∃ wo : World, wo = wr := ⟨_, rfl⟩
      go_loopw [9] (fun i wr => ∃ (j : Nat) (m' : List Fc), j ≤ k ∧ i = .int .i64 j ∧ List.Perm m' l ∧ (∀ a b, a < b → b < k + 1 → b ≠ j → (fat m' a).en ≤ (fat m' b).en) ∧ OF wr base (.slice (some ⟨g, 0, none⟩) n cap) m' ∧ w.grownBy wr (some g)) (fun i _ => (intOf i).toNat)
      case atStart => exact ⟨k, m, Nat.le_refl _, rfl, HP.out, fun a b h1 h2 h3 => HSO.out a b h1 (by omega) (by omega), HOF.out, HGR.out⟩
      case round =>
        clear HP HSO HOF HGR
        obtain ⟨j, m', hj, rfl, hp, hs, hof, hg⟩ := hrel
        have hml : m'.length = n := by rw [hp.length_eq, hn]
        have HP := Lib.hid hp; clear hp
        have HSO := Lib.hid hs; clear hs
        have HGR := Lib.hid hg; clear hg
        by_cases hj0 : j = 0
        · subst hj0
          have HOF := Lib.hid hof; clear hof
          go_wp2
          go_quiet (fail)
          go_wp2
          exact ⟨⟨k + 1, m', by omega, by go_num, HP.out, ins_done HSO.out (fun h => absurd rfl h), HOF.out, ⟨HGR.out.os, HGR.out.tape, HGR.out.output, HGR.out.size, HGR.out.block⟩⟩, by simp [intOf]; omega⟩
        · obtain ⟨c0, c1, c2, c3, c4, c5⟩ := hof.at_ hml (k := j) (by omega)
          obtain ⟨d0, d1, d2, d3, d4, d5⟩ := hof.at_ hml (k := j - 1) (by omega)
          have HOF := Lib.hid hof; clear hof
          have b1 : decide (0 < j) = true := by simp; omega
          have b2 : (j : Int) < n := by omega
          have b3 : (0 : Int) ≤ (j : Int) - 1 := by omega
          have b4 : (j : Int) - 1 < n := by omega
          have b7 : (1 : Int) ≤ j := by omega
          have b8 : 1 ≤ j := by omega
          have b5 : ((j : Int) - 1).toNat = j - 1 := by omega
          have b6 : IntKind.i64.wrap ((j : Int) - 1) = (j : Int) - 1 := IntWalk.i64_in _ (by omega)
          go_wp2
          go_still_tail 14, (by kernel_rfl)
          change wpList _ _ _ _ _ wr.drew
          go_wp2_with fail
          refine (cmp_any (fat m' j) (fat m' (j - 1)) _).mono ?_
          rintro e w1 ⟨r, rfl, hr1, hr2, hr3, hx⟩
          have HR3 := Lib.hid hr3; clear hr3
          have hof1 := HOF.out.ext (Ext.of_drew hx)
          have hgr1 : w.grownBy w1 (some g) := HGR.out.andThen (grownBy_ext (Ext.of_drew hx) (some g)) (fun _ e => .inr e)
          have HGR1 := Lib.hid hgr1
          clear c0 c1 c2 c3 c4 c5 d0 d1 d2 d3 d4 d5 hx HGR HOF hgr1
          by_cases hrn : r < 0
          · have hrd : decide (r < 0) = true := by simpa using hrn
            have hlt2 := HR3.out.1 hrn
            have HLT := Lib.hid hlt2; clear hlt2
            obtain ⟨c0, c1, c2, c3, c4, c5⟩ := hof1.at_ hml (k := j) (by omega)
            obtain ⟨d0, d1, d2, d3, d4, d5⟩ := hof1.at_ hml (k := j - 1) (by omega)
            have hfz : ∀ i, w1.frozen? ⟨g, i, none⟩ = false := hof1.frozen hml
            have HOF := Lib.hid hof1; clear hof1
            go_wp2
            go_region
            go_wp2
            obtain ⟨o1, r1⟩ := HOF.out.put hml (k := j) (by omega) (fat m' (j - 1))
            obtain ⟨o2, r2⟩ := o1.put (by simp [hml]) (k := j - 1) (by omega) (fat m' j)
            have o3 : OF _ base (.slice (some ⟨g, 0, none⟩) n cap) (sw m' j) := o2
            have r3 := (HGR1.out.andThen r1 (fun _ e => .inr e)).andThen r2 (fun _ e => .inr e)
            have O3 := Lib.hid o3
            have R3 := Lib.hid r3
            have P3 := Lib.hid ((sw_perm (by omega : j < m'.length)).trans HP.out)
            have S3 := Lib.hid (sw_step hj0 (by omega) hj HSO.out HLT.out)
            have e3 : ((j - 1 : Nat) : Int) = (j : Int) - 1 := by omega
            refine ⟨⟨j - 1, sw m' j, by omega, by rw [e3], P3.out, S3.out, ?_, ?_⟩, by simp [intOf]; omega⟩
            · exact OF.drew O3.out
            · exact grown_drew R3.out
          · have hrd : decide (r < 0) = false := by simpa using hrn
            have hlt2 : ¬ (fat m' j).en < (fat m' (j - 1)).en := fun h => hrn (HR3.out.2 h)
            have HLT := Lib.hid hlt2; clear hlt2
            have HOF := Lib.hid hof1; clear hof1
            go_wp2
            exact ⟨⟨k + 1, m', by omega, by go_num, HP.out, ins_done HSO.out (fun _ => Int.not_lt.2 HLT.out), HOF.out, HGR1.out⟩, by simp [intOf]; omega⟩
    · go_wp2
      go_end0
      exact ⟨m, rfl, HP.out, fun a b h1 h2 => HSO.out a b h1 (by omega) h2, HOF.out, HGR.out⟩
end Go.Proofs.YtngjghblpbdciaaGreatDoor.Fa

/- slices.SortFunc on at most 12 facts, by their entries: the contract. -/
namespace Go.Proofs.YtngjghblpbdciaaGreatDoor.Fa
open Go Go.RowKit

def SomeInt (w : World) (e : Ending) (w' : World) : Prop := ∃ r : Int, e = .returned (.int .i64 r) ∧ w = w'
set_option maxRecDepth 100000 in
theorem len64_any (n : Nat) (w : World) (h : n ≤ 12) : Calls Tryz.prog 96 #[.int .u64 n] w (SomeInt w) := by
  have hc : n = 0 ∨ n = 1 ∨ n = 2 ∨ n = 3 ∨ n = 4 ∨ n = 5 ∨ n = 6 ∨ n = 7 ∨ n = 8 ∨ n = 9 ∨ n = 10 ∨ n = 11 ∨ n = 12 := by omega
  rcases hc with rfl | rfl | rfl | rfl | rfl | rfl | rfl | rfl | rfl | rfl | rfl | rfl | rfl
  all_goals
    go_enter Tryz.func96, Tryz.ntmps96
    go_wp2
    go_ret
    exact ⟨_, rfl, rfl⟩
theorem len_any (n : Nat) (w : World) (h : n ≤ 12) : Calls Tryz.prog 70 #[.int .u64 n] w (SomeInt w) := by
  go_enter Tryz.func70, Tryz.ntmps70
  go_wp2_with (first | (go_at_call 96; refine (len64_any n _ h).mono ?_; rintro e w' ⟨r, rfl, rfl⟩))
  go_ret
  exact ⟨_, rfl, rfl⟩
set_option maxRecDepth 100000 in
theorem pdq_any (l : List Fc) (base g n cap : Nat) (r : Int) (w : World) (hn : l.length = n) (h12 : n ≤ 12) (h : OF w base (.slice (some ⟨g, 0, none⟩) n cap) l) :
    Calls Tryz.prog 69 #[.slice (some ⟨g, 0, none⟩) n cap, .int .i64 0, .int .i64 n, .int .i64 r, .func (.func 49) #[] #[]] w (InsPost l base g n cap w) := by
  have HO := Lib.hid h; clear h
  go_enter Tryz.func69, Tryz.ntmps69
  go_wp2
  refine wp_loop_rounds 1 ?_
  rw [rounds_succ]
  go_wp2_with (first | (go_at_call 87; refine (ins_any l base g n cap _ hn h12 HO.out).mono ?_; rintro e w1 ⟨m, rfl, hp, hs, ho, hg⟩; have HP := Lib.hid hp; have HS := Lib.hid hs; have HO1 := Lib.hid ho; have HG := Lib.hid hg; clear hp hs ho hg))
  go_end0
  exact ⟨m, rfl, HP.out, HS.out, HO1.out, HG.out⟩
theorem sort_any (l : List Fc) (base g n cap : Nat) (w : World) (hn : l.length = n) (h12 : n ≤ 12) (h : OF w base (.slice (some ⟨g, 0, none⟩) n cap) l) :
    Calls Tryz.prog 48 #[.slice (some ⟨g, 0, none⟩) n cap, .func (.func 49) #[] #[]] w (InsPost l base g n cap w) := by
  have HO := Lib.hid h; clear h
  go_enter Tryz.func48, Tryz.ntmps48
  go_wp2_with (first | (go_at_call 70; refine (len_any n _ h12).mono ?_; rintro e w' ⟨r, rfl, rfl⟩) | (go_at_call 69; refine (pdq_any l base g n cap _ _ hn h12 HO.out).mono ?_; rintro e w1 ⟨m, rfl, hp, hs, ho, hg⟩; have HP := Lib.hid hp; have HS := Lib.hid hs; have HO1 := Lib.hid ho; have HG := Lib.hid hg; clear hp hs ho hg))
  go_end0
  exact ⟨m, rfl, HP.out, HS.out, HO1.out, HG.out⟩
end Go.Proofs.YtngjghblpbdciaaGreatDoor.Fa

/- Plain lists, continued: the facts known after an operation: one list alone is sorted by its entries and has just these facts. -/
namespace Go.Proofs.YtngjghblpbdciaaGreatDoor.Fa

/-- Association lists. -/
def aget : List (Int × Vr) → Int → Option Vr
  | [], _ => none
  | p :: r, k => if k = p.1 then some p.2 else aget r k
def aput : List (Int × Vr) → Int → Vr → List (Int × Vr)
  | [], k, v => [(k, v)]
  | p :: r, k, v => if k = p.1 then (k, v) :: r else p :: aput r k v
theorem aget_put (es : List (Int × Vr)) (k : Int) (v : Vr) (k' : Int) : aget (aput es k v) k' = if k' = k then some v else aget es k' := by
  induction es with
  | nil => simp [aput, aget]
  | cons p r ih =>
    simp only [aput]
    by_cases h : k = p.1
    · subst h; simp only [if_true, aget]; split <;> rfl
    · simp only [if_neg h, aget, ih]
      by_cases h1 : k' = p.1
      · simp only [if_pos h1]; rw [if_neg (fun e => h (e.symm.trans h1))]
      · simp only [if_neg h1]
theorem akeys_put (es : List (Int × Vr)) (k : Int) (v : Vr) (x : Int) : x ∈ (aput es k v).map (·.1) ↔ x = k ∨ x ∈ es.map (·.1) := by
  induction es with
  | nil => simp [aput]
  | cons p r ih =>
    simp only [aput]
    by_cases h : k = p.1
    · subst h; simp
    · simp only [if_neg h, List.map_cons, List.mem_cons, ih]
      constructor <;> (rintro (h | h | h) <;> simp [h])
theorem anodup_put (es : List (Int × Vr)) (k : Int) (v : Vr) (h : (es.map (·.1)).Nodup) : ((aput es k v).map (·.1)).Nodup := by
  induction es with
  | nil => simp [aput]
  | cons p r ih =>
    simp only [aput]
    rw [List.map_cons, List.nodup_cons] at h
    by_cases hk : k = p.1
    · subst hk; simpa using h
    · rw [if_neg hk, List.map_cons, List.nodup_cons]
      exact ⟨fun hm => by rcases (akeys_put r k v p.1).1 hm with e | e; exact hk e.symm; exact h.1 e, ih h.2⟩
theorem aget_mem {es : List (Int × Vr)} (h : (es.map (·.1)).Nodup) (k : Int) (v : Vr) : aget es k = some v ↔ (k, v) ∈ es := by
  induction es with
  | nil => simp [aget]
  | cons p r ih =>
    rw [List.map_cons, List.nodup_cons] at h
    simp only [aget, List.mem_cons]
    by_cases hk : k = p.1
    · subst hk
      rw [if_pos rfl]
      constructor
      · intro e; left; cases e; rfl
      · rintro (e | e)
        · rw [← e]
        · exact absurd (List.mem_map.2 ⟨_, e, rfl⟩) h.1
    · rw [if_neg hk, ih h.2]
      constructor
      · intro e; exact .inr e
      · rintro (e | e)
        · exact absurd (congrArg Prod.fst e) hk
        · exact e

/-- The versions up to an operation. -/
def upto (l : List Vr) (op : Int) : List Vr := l.filter fun v => decide (v.op ≤ op)

/-- The facts known after an operation: sorted by their entries, no entry twice, and just those whose last version up to the operation is not struck. -/
structure IsAt (l : List Vr) (op : Int) (m : List Fc) : Prop where
  sorted : m.Pairwise fun a b => a.en < b.en
  mem : ∀ f, f ∈ m ↔ ∃ v, lastOf (upto l op) f.en = some v ∧ v.st = false ∧ v.fc = f

theorem sorted_ext : ∀ (a b : List Fc), a.Pairwise (fun x y => x.en < y.en) → b.Pairwise (fun x y => x.en < y.en) → (∀ f, f ∈ a ↔ f ∈ b) → a = b
  | [], [], _, _, _ => rfl
  | [], y :: b, _, _, h => absurd ((h y).2 (.head _)) (by simp)
  | x :: a, [], _, _, h => absurd ((h x).1 (.head _)) (by simp)
  | x :: a, y :: b, ha, hb, h => by
    rw [List.pairwise_cons] at ha hb
    have hxy : x = y := by
      rcases List.mem_cons.1 ((h x).1 (.head _)) with e | e
      · exact e
      · rcases List.mem_cons.1 ((h y).2 (.head _)) with e' | e'
        · exact e'.symm
        · have h1 := hb.1 x e; have h2 := ha.1 y e'; omega
    subst hxy
    have ht : ∀ f, f ∈ a ↔ f ∈ b := fun f => by
      constructor
      · intro hf
        rcases List.mem_cons.1 ((h f).1 (.tail _ hf)) with e | e
        · subst e; have := ha.1 f hf; omega
        · exact e
      · intro hf
        rcases List.mem_cons.1 ((h f).2 (.tail _ hf)) with e | e
        · subst e; have := hb.1 f hf; omega
        · exact e
    rw [sorted_ext a b ha.2 hb.2 ht]
theorem IsAt.unique {l : List Vr} {op : Int} {a b : List Fc} (ha : IsAt l op a) (hb : IsAt l op b) : a = b :=
  sorted_ext a b ha.sorted hb.sorted fun f => (ha.mem f).trans (hb.mem f).symm

/-- What the map holds after the first versions: the last one of each entry. -/
structure IsMap (l : List Vr) (vs : List (Int × Vr)) : Prop where
  keys : (vs.map (·.1)).Nodup
  get : ∀ en, aget vs en = lastOf l en
theorem IsMap.nil : IsMap [] [] := ⟨by simp, fun _ => rfl⟩
theorem IsMap.snoc {l : List Vr} {vs : List (Int × Vr)} (h : IsMap l vs) (v : Vr) : IsMap (l ++ [v]) (aput vs v.fc.en v) :=
  ⟨anodup_put _ _ _ h.keys, fun en => by
    rw [aget_put, lastOf_snoc, h.get]
    by_cases e : en = v.fc.en
    · rw [if_pos e, if_pos e.symm]
    · rw [if_neg e, if_neg (fun e' => e e'.symm)]⟩
theorem upto_take_succ {l : List Vr} {k : Nat} (h : k < l.length) (op : Int) : upto (l.take (k + 1)) op = if (vat l k).op ≤ op then upto (l.take k) op ++ [vat l k] else upto (l.take k) op := by
  rw [take_vat h]
  unfold upto
  rw [List.filter_append]
  by_cases hh : (vat l k).op ≤ op <;> simp [hh]

/-- The facts of the entries with the numbers 'is' that are not struck. -/
def pickF (vs : List (Int × Vr)) (is : List Nat) : List Fc := is.filterMap fun i => (vs[i]?).bind fun p => if p.2.st then none else some p.2.fc
theorem pickF_snoc (vs : List (Int × Vr)) (is : List Nat) (i : Nat) (p : Int × Vr) (h : vs[i]? = some p) : pickF vs (is ++ [i]) = pickF vs is ++ (if p.2.st then [] else [p.2.fc]) := by
  unfold pickF
  rw [List.filterMap_append]
  congr 1
  cases hp : p.2.st <;> simp [h, hp]

theorem nodup_len6 : ∀ (n : Nat) (ks : List Int), ks.Nodup → (∀ x ∈ ks, 0 ≤ x ∧ x < n) → ks.length ≤ n
  | 0, ks, _, h => by
    cases ks with
    | nil => simp
    | cons x r => have := h x (.head _); omega
  | n + 1, ks, hn, h => by
    have h1 : (ks.erase (n : Int)).length ≤ n := nodup_len6 n _ (hn.erase _) fun x hx => by
      have hm := (hn.mem_erase_iff.1 hx)
      have := h x hm.2
      have hne := hm.1
      omega
    have h2 : ks.length ≤ (ks.erase (n : Int)).length + 1 := by
      rw [List.length_erase]
      split <;> omega
    omega

theorem isAt_of {l : List Vr} {op : Int} {vs : List (Int × Vr)} (h : IsMap (upto l op) vs) {is : List Nat} (hn : is.Nodup) (hall : ∀ i, i < vs.length → i ∈ is) (hlt : ∀ i ∈ is, i < vs.length)
    {m : List Fc} (hp : List.Perm m (pickF vs is)) (hs : m.Pairwise fun a b => a.en ≤ b.en) : IsAt l op m := by
  have hmem : ∀ f, f ∈ m ↔ ∃ v, lastOf (upto l op) f.en = some v ∧ v.st = false ∧ v.fc = f := fun f => by
    rw [hp.mem_iff]
    unfold pickF
    rw [List.mem_filterMap]
    constructor
    · rintro ⟨i, hi, hb⟩
      obtain ⟨p, hp1, hp2⟩ := Option.bind_eq_some_iff.1 hb
      by_cases hst : p.2.st = true
      · simp [hst] at hp2
      · simp [hst] at hp2
        have hg : aget vs p.1 = some p.2 := (aget_mem h.keys _ _).2 (List.mem_of_getElem? hp1)
        rw [h.get] at hg
        have := (lastOf_some hg).2
        exact ⟨p.2, by rw [← hp2, this]; exact hg, by simpa using hst, hp2⟩
    · rintro ⟨v, hv, hst, rfl⟩
      rw [← h.get] at hv
      obtain ⟨i, hi, he⟩ := List.mem_iff_getElem.1 ((aget_mem h.keys _ _).1 hv)
      exact ⟨i, hall i hi, by rw [List.getElem?_eq_getElem hi, he]; simp [hst]⟩
  refine ⟨?_, hmem⟩
  have hnd : (pickF vs is).Pairwise fun a b => a.en ≠ b.en := by
    unfold pickF
    rw [List.pairwise_filterMap]
    refine hn.imp_of_mem fun {i j} hi hj hij a ha b hb => ?_
    obtain ⟨p, hp1, hp2⟩ := Option.bind_eq_some_iff.1 ha
    obtain ⟨q, hq1, hq2⟩ := Option.bind_eq_some_iff.1 hb
    have hpe : p.2.fc.en = p.1 := by
      have hg : aget vs p.1 = some p.2 := (aget_mem h.keys _ _).2 (List.mem_of_getElem? hp1)
      rw [h.get] at hg; exact (lastOf_some hg).2
    have hqe : q.2.fc.en = q.1 := by
      have hg : aget vs q.1 = some q.2 := (aget_mem h.keys _ _).2 (List.mem_of_getElem? hq1)
      rw [h.get] at hg; exact (lastOf_some hg).2
    have ha' : a = p.2.fc := by
      by_cases hst : p.2.st = true
      · simp [hst] at hp2
      · simp [hst] at hp2; exact hp2.symm
    have hb' : b = q.2.fc := by
      by_cases hst : q.2.st = true
      · simp [hst] at hq2
      · simp [hst] at hq2; exact hq2.symm
    rw [ha', hb', hpe, hqe]
    intro e
    have hk : (vs.map (·.1))[i]? = (vs.map (·.1))[j]? := by simp [hp1, hq1, e]
    exact hij ((List.getElem?_inj (by simpa using hlt i hi) h.keys).1 hk)
  have hnd2 : m.Pairwise fun a b => a.en ≠ b.en := (hp.pairwise_iff (fun {a b} h e => h e.symm)).2 hnd
  exact hs.imp₂ (fun a b h1 h2 => by omega) hnd2
end Go.Proofs.YtngjghblpbdciaaGreatDoor.Fa

/- The contract of facts.At. -/
namespace Go.Proofs.YtngjghblpbdciaaGreatDoor.Fa
open Go Go.RowKit

def vmap (vs : List (Int × Vr)) : List (Int × Value) := vs.map fun p => (p.1, .agg #[.int .i64 p.2.op, .bool p.2.st, .int .i64 p.2.fc.en, .string p.2.fc.kd, .int .i64 p.2.fc.day, .int .i64 p.2.fc.byy, .int .i64 p.2.fc.too, .int .i64 p.2.fc.am])
theorem vmap_put (vs : List (Int × Vr)) (k : Int) (v : Vr) : IM.put (vmap vs) k (.agg #[.int .i64 v.op, .bool v.st, .int .i64 v.fc.en, .string v.fc.kd, .int .i64 v.fc.day, .int .i64 v.fc.byy, .int .i64 v.fc.too, .int .i64 v.fc.am]) = vmap (aput vs k v) := by
  induction vs with
  | nil => rfl
  | cons p r ih =>
    simp only [vmap, List.map_cons, IM.put, aput] at ih ⊢
    by_cases h : k = p.1
    · simp [h]
    · simp [h, ih]
theorem vmap_len (vs : List (Int × Vr)) : (vmap vs).length = vs.length := by simp [vmap]
theorem vmap_get (vs : List (Int × Vr)) (i : Nat) (q : Int × Value) (h : (vmap vs)[i]? = some q) : ∃ p, vs[i]? = some p ∧ q = (p.1, .agg #[.int .i64 p.2.op, .bool p.2.st, .int .i64 p.2.fc.en, .string p.2.fc.kd, .int .i64 p.2.fc.day, .int .i64 p.2.fc.byy, .int .i64 p.2.fc.too, .int .i64 p.2.fc.am]) := by
  unfold vmap at h
  rw [List.getElem?_map] at h
  obtain ⟨p, h1, h2⟩ := Option.map_eq_some_iff.1 h
  exact ⟨p, h1, h2.symm⟩

theorem nodup_lenN : ∀ (n : Nat) (ks : List Nat), ks.Nodup → (∀ x ∈ ks, x < n) → ks.length ≤ n
  | 0, ks, _, h => by
    cases ks with
    | nil => simp
    | cons x r => have := h x (.head _); omega
  | n + 1, ks, hn, h => by
    have h1 : (ks.erase n).length ≤ n := nodup_lenN n _ (hn.erase _) fun x hx => by
      have hm := (hn.mem_erase_iff.1 hx)
      have := h x hm.2
      have hne := hm.1
      omega
    have h2 : ks.length ≤ (ks.erase n).length + 1 := by
      rw [List.length_erase]
      split <;> omega
    omega
/-- What the loop over the map has gathered. -/
structure RSt (vs : List (Int × Vr)) (is : List Nat) (out : List Fc) : Prop where
  nodup : is.Nodup
  lt : ∀ i ∈ is, i < vs.length
  out : out = pickF vs is
theorem RSt.step {vs : List (Int × Vr)} {is : List Nat} {out : List Fc} (h : RSt vs is out) {i : Nat} {p : Int × Vr} (hp : vs[i]? = some p) (hi : i ∉ is) {o : List Fc} (ho : o = if p.2.st then [] else [p.2.fc]) : RSt vs (is ++ [i]) (out ++ o) := by
  have hl : i < vs.length := (List.getElem?_eq_some_iff.1 hp).1
  refine ⟨?_, fun j hj => ?_, by rw [pickF_snoc vs is i p hp, h.out, ho]⟩
  · rw [List.nodup_append]
    exact ⟨h.nodup, by simp, fun a ha b hb e => by simp at hb; subst hb; subst e; exact hi ha⟩
  · rcases List.mem_append.1 hj with h1 | h1
    · exact h.lt j h1
    · simp at h1; omega
theorem RSt.len {vs : List (Int × Vr)} {is : List Nat} {out : List Fc} (h : RSt vs is out) : is.length ≤ vs.length ∧ out.length ≤ is.length :=
  ⟨nodup_lenN _ _ h.nodup h.lt, by rw [h.out]; exact List.length_filterMap_le _ _⟩

theorem OF.block {w : World} {base : Nat} {v : Value} {l : List Fc} (h : OF w base v l) {k : Nat} (hk : v.ownBlock = some k) : ∃ cs, w.heap[k]? = some (.cells cs 24 (0, 0)) := by
  rcases h.2 with ⟨rfl, _⟩ | ⟨g, cap, cur, rfl, _, hg, _⟩
  · simp [Value.ownBlock] at hk
  · simp [Value.ownBlock] at hk; subst hk; exact ⟨cur, hg⟩
theorem OF.ne {w : World} {base : Nat} {v : Value} {l : List Fc} (h : OF w base v l) {k : Nat} {o : Obj} (hk : w.heap[k]? = some o) (ho : ∀ cs, o ≠ .cells cs 24 (0, 0)) : v.ownBlock ≠ some k := fun e => by
  obtain ⟨cs, hc⟩ := h.block e
  rw [hk] at hc
  exact ho cs (Option.some.inj hc)
theorem OF.alloc {w : World} {base : Nat} {v : Value} {l : List Fc} (h : OF w base v l) (o : Obj) : OF (w.alloc o) base v l := World.ownsRow.alloc h o
theorem IIt.seen {w : World} {r b n : Nat} {is : List Nat} (h : IIt w r b n is) : (w.iterSeen r).size = is.length := by
  unfold IIt at h; unfold World.iterSeen; rw [h]; simp
theorem ne_of_own {v : Value} {n k : Nat} (h : v.ownBlock ≠ some k) : ∀ a, v ≠ .slice (some ⟨k, 0, none⟩) n a := fun a e => h (by rw [e]; rfl)

theorem ins_nil (w : World) : Calls Tryz.prog 87 #[.slice none 0 0, .int .i64 0, .int .i64 0, .func (.func 49) #[] #[]] w fun e w' => e = .returned (.tuple #[]) ∧ w = w' := by
  go_enter Tryz.func87, Tryz.ntmps87
  go_wp2
  go_loop [8] (fun i => i = .int .i64 1) (fun _ => 0)
  case atStart => rfl
  case round =>
    subst hrel
    go_wp2
    go_end0
    exact ⟨rfl, rfl⟩
theorem pairwise_fat {m : List Fc} {n : Nat} (hn : m.length = n) (h : ∀ a b, a < b → b < n → (fat m a).en ≤ (fat m b).en) : m.Pairwise fun a b => a.en ≤ b.en := by
  rw [List.pairwise_iff_getElem]
  intro i j hi hj hij
  rw [fat_get hi, fat_get hj]
  exact h i j hij (by omega)
set_option maxRecDepth 100000 in
theorem pdq_nil (r : Int) (w : World) : Calls Tryz.prog 69 #[.slice none 0 0, .int .i64 0, .int .i64 0, .int .i64 r, .func (.func 49) #[] #[]] w fun e w' => e = .returned (.tuple #[]) ∧ w = w' := by
  go_enter Tryz.func69, Tryz.ntmps69
  go_wp2
  refine wp_loop_rounds 1 ?_
  rw [rounds_succ]
  go_wp2_with (first | (go_at_call 87; refine (ins_nil _).mono ?_; rintro e w1 ⟨rfl, rfl⟩))
  refine bodyPost_ret (results_none rfl _ _ _) rfl ?_
  exact ⟨rfl, rfl⟩
theorem sort_nil (w : World) : Calls Tryz.prog 48 #[.slice none 0 0, .func (.func 49) #[] #[]] w fun e w' => e = .returned (.tuple #[]) ∧ w = w' := by
  go_enter Tryz.func48, Tryz.ntmps48
  go_wp2_with (first | (go_at_call 70; refine (len_any 0 _ (by omega)).mono ?_; rintro e w' ⟨r, rfl, rfl⟩) | (go_at_call 69; refine (pdq_nil _ _).mono ?_; rintro e w1 ⟨rfl, rfl⟩))
  go_end0
  exact ⟨rfl, rfl⟩

def AtPost (l : List Vr) (op : Int) (w : World) (e : Ending) (w' : World) : Prop :=
  ∃ (m : List Fc) (A : Option Addr) (c : Nat), e = .returned (.slice A m.length c) ∧ IsAt l op m ∧ m.length ≤ 6 ∧ OF w' w.heap.size (.slice A m.length c) m ∧ Ext w w'

set_option maxRecDepth 100000 in
set_option maxHeartbeats 2000000 in
theorem at_any (A : Option Addr) (n c : Nat) (l : List Vr) (op : Int) (w : World) (hl : n ≤ 1000) (h : SV w w.heap.size A n l) (hen : ∀ k, k < n → 0 ≤ (vat l k).fc.en ∧ (vat l k).fc.en ≤ 5) :
    Calls Tryz.prog 30 #[.slice A n c, .int .i64 op] w (AtPost l op w) := by
  obtain rfl : l.length = n := h.1
  have HS := Lib.hid h; clear h
  have HEN := Lib.hid hen; clear hen
  have hmm := @run_makeMap Tryz.prog
  go_enter Tryz.func30, Tryz.ntmps30
  go_wp2
  clear hmm
  go_loopw [14] (fun i wr => ∃ (k : Nat) (vs : List (Int × Vr)), k ≤ l.length ∧ i = .int .i64 k ∧ IsMap (upto (l.take k) op) vs ∧ IMp wr w.heap.size (vmap vs) ∧ Ext w wr) (fun i _ => l.length - (intOf i).toNat)
  case atStart => exact ⟨0, [], Nat.zero_le _, rfl, IsMap.nil, IMp.made w, (Ext.refl _).alloc _⟩
  case round =>
    obtain ⟨k, vs, hk, rfl, hm, hmp, hx⟩ := hrel
    have HM := Lib.hid hm; clear hm
    have HMP := Lib.hid hmp; clear hmp
    by_cases hlt : k < l.length
    · have hlt' : (k : Int) < l.length := by omega
      obtain ⟨b, off, rfl, hb, c0, c1, c2, c3, c4, c5, c6, c7⟩ := SV.at_ (SV.lift HS.out (Nat.le_refl _) hx) (k := k) hlt
      by_cases hop : (vat l k).op ≤ op
      · have hm2 : IsMap (upto (l.take (k + 1)) op) (aput vs (vat l k).fc.en (vat l k)) := by rw [upto_take_succ hlt, if_pos hop]; exact HM.out.snoc _
        have HM2 := Lib.hid hm2; clear hm2
        obtain ⟨w3, hrun, hmp3, hg3⟩ := run_update_im (P := Tryz.prog) (t := 88) (HMP.out.alloc (.cells #[.int .i64 (vat l k).op, .bool (vat l k).st, .int .i64 (vat l k).fc.en, .string (vat l k).fc.kd, .int .i64 (vat l k).fc.day, .int .i64 (vat l k).fc.byy, .int .i64 (vat l k).fc.too, .int .i64 (vat l k).fc.am] 26)) Tryz.underlying88 Tryz.underlying3 (vat l k).fc.en (.agg #[.int .i64 (vat l k).op, .bool (vat l k).st, .int .i64 (vat l k).fc.en, .string (vat l k).fc.kd, .int .i64 (vat l k).fc.day, .int .i64 (vat l k).fc.byy, .int .i64 (vat l k).fc.too, .int .i64 (vat l k).fc.am])
        rw [vmap_put] at hmp3
        have HMP3 := Lib.hid hmp3; clear hmp3
        have HX3 := Lib.hid (grown_ext (hx.alloc _) hg3 (Nat.le_refl _)); clear hg3
        go_wp2
        exact ⟨⟨k + 1, _, by omega, by go_num, HM2.out, HMP3.out, HX3.out⟩, by simp [intOf]; omega⟩
      · have hm2 : IsMap (upto (l.take (k + 1)) op) vs := by rw [upto_take_succ hlt, if_neg hop]; exact HM.out
        have HM2 := Lib.hid hm2; clear hm2
        go_wp2
        exact ⟨⟨k + 1, vs, by omega, by go_num, HM2.out, HMP.out.alloc _, hx.alloc _⟩, by simp [intOf]; omega⟩
    · obtain rfl : k = l.length := by omega
      have hm2 := HM.out
      rw [List.take_length] at hm2
      have HM2 := Lib.hid hm2; clear hm2
      have hlen : vs.length ≤ 6 := by
        have := nodup_len6 6 (vs.map (·.1)) HM2.out.keys (fun x hx => by
          obtain ⟨p, hp, rfl⟩ := List.mem_map.1 hx
          have hg : aget vs p.1 = some p.2 := (aget_mem HM2.out.keys _ _).2 hp
          rw [HM2.out.get] at hg
          obtain ⟨h1, h2⟩ := lastOf_some hg
          obtain ⟨i, hi, he⟩ := List.mem_iff_getElem.1 (List.mem_filter.1 h1).1
          have := HEN.out i hi
          have e : vat l i = p.2 := by simp [vat, hi, he]
          rw [e] at this
          omega)
        simpa using this
      have hrr := run_range_im (P := Tryz.prog) (t := 88) HMP.out Tryz.underlying88
      go_wp2
      clear hrr
      have HX0 := Lib.hid hx
      obtain ⟨wo, rfl⟩ : ∃ wo : World, wo = wr := ⟨_, rfl⟩
      go_loopw [8] (fun o wx => ∃ (is : List Nat) (out : List Fc) (A' : Option Addr) (c' : Nat), o = .slice A' out.length c' ∧ RSt vs is out ∧ OF wx w.heap.size (.slice A' out.length c') out ∧ IMp wx w.heap.size (vmap vs) ∧ IIt wx wo.heap.size w.heap.size (vmap vs).length is ∧ Ext w wx) (fun _ wx => vs.length - (wx.iterSeen wo.heap.size).size)
      case atStart => exact ⟨[], [], none, 0, rfl, ⟨by simp, by simp, rfl⟩, OF.nil _ _, HMP.out.alloc _, IIt.made wo _ _, hx.alloc _⟩
      case round =>
        clear HMP
        obtain ⟨is, out, A', c', rfl, hrs, hof, hmp, hit, hxx⟩ := hrel
        have hlen2 := hrs.len
        have hseen := hit.seen
        have HSEEN := Lib.hid hseen; clear hseen
        rcases run_next_im (P := Tryz.prog) hmp hit 0 with ⟨hall, hnext⟩ | ⟨i, q, w1, hq, hni, hnext, hit1, hg1, hsz1, hentry⟩
        · have HRS := Lib.hid hrs
          have HALL := Lib.hid hall
          have HOF := Lib.hid hof
          obtain ⟨A9, c9, e9, _, hh⟩ := own_form hof
          injection e9 with e1 e2 e3
          subst e1 e3
          have ho6 : out.length ≤ 6 := by omega
          have HLT := Lib.hid hrs.lt
          have HND := Lib.hid hrs.nodup
          have HOUT := Lib.hid hrs.out
          clear hrs hall hof hmp hit hlen2 HSEEN e2
          rcases hh with ⟨rfl, h0, rfl⟩ | ⟨g, rfl, hg1, hg2, _⟩
          · obtain rfl : out = [] := List.eq_nil_of_length_eq_zero h0
            clear h0
            go_wp2_with (first | (go_at_call 48; refine (sort_nil _).mono ?_; rintro e w1 ⟨rfl, rfl⟩))
            go_ret
            exact ⟨[], none, 0, rfl, isAt_of HM2.out HND.out (fun i hi => HALL.out i (by rw [vmap_len]; exact hi)) HLT.out (by rw [← HOUT.out]) List.Pairwise.nil, by simp, HOF.out, hxx⟩
          · go_wp2_with (first | (go_at_call 48; refine (sort_any out w.heap.size g out.length _ _ rfl (by omega) HOF.out).mono ?_; rintro e w1 ⟨m, rfl, hp, hs, ho, hgg⟩; have HP := Lib.hid hp; have HSO := Lib.hid hs; have HO1 := Lib.hid ho; have HG := Lib.hid hgg; clear hp hs ho hgg))
            go_ret
            have hml : m.length = out.length := HP.out.length_eq
            exact ⟨m, some ⟨g, 0, none⟩, _, by rw [hml]; rfl, isAt_of HM2.out HND.out (fun i hi => HALL.out i (by rw [vmap_len]; exact hi)) HLT.out (by rw [← HOUT.out]; exact HP.out) (pairwise_fat hml HSO.out), by omega, by rw [hml]; exact HO1.out, grown_ext hxx HG.out hg1⟩
        · obtain ⟨p, hp, rfl⟩ := vmap_get vs i q hq
          simp only at hnext hentry
          have hne := hof.ne (k := wo.heap.size) hit (fun cs e => by cases e)
          have hof1 : OF w1 w.heap.size (.slice A' out.length c') out := World.ownsRow.kept hof hg1 (.inr hne)
          have hmp1 : IMp w1 w.heap.size (vmap vs) := hmp.grown hg1 (fun e => by
            have h1 := hit; unfold IIt at h1; injection e with e; rw [← e] at h1; unfold IMp at hmp; rw [hmp] at h1; cases h1)
          have hx1 : Ext w w1 := grown_ext hxx hg1 (by have := HX0.out.lt; omega)
          have hm1 : vs.length - (is.length + 1) < vs.length - is.length := by
            have := nodup_lenN vs.length (is ++ [i]) (hrs.step hp hni rfl).nodup (hrs.step hp hni rfl).lt
            simp at this; omega
          have HM1 := Lib.hid hm1
          clear hq hof hmp hit hxx hg1 hne hm1 hsz1
          cases hst : p.2.st
          · have hrs2 := hrs.step hp hni (o := [p.2.fc]) (by rw [hst]; rfl)
            have hof2 := (hof1.alloc (.cells #[.int .i64 p.2.op, .bool false, .int .i64 p.2.fc.en, .string p.2.fc.kd, .int .i64 p.2.fc.day, .int .i64 p.2.fc.byy, .int .i64 p.2.fc.too, .int .i64 p.2.fc.am] 26)).alloc (.cells #[.int .i64 p.2.fc.en, .string p.2.fc.kd, .int .i64 p.2.fc.day, .int .i64 p.2.fc.byy, .int .i64 p.2.fc.too, .int .i64 p.2.fc.am] 24)
            have hmp2 := (hmp1.alloc (.cells #[.int .i64 p.2.op, .bool false, .int .i64 p.2.fc.en, .string p.2.fc.kd, .int .i64 p.2.fc.day, .int .i64 p.2.fc.byy, .int .i64 p.2.fc.too, .int .i64 p.2.fc.am] 26)).alloc (.cells #[.int .i64 p.2.fc.en, .string p.2.fc.kd, .int .i64 p.2.fc.day, .int .i64 p.2.fc.byy, .int .i64 p.2.fc.too, .int .i64 p.2.fc.am] 24)
            have hit2 := (hit1.alloc (.cells #[.int .i64 p.2.op, .bool false, .int .i64 p.2.fc.en, .string p.2.fc.kd, .int .i64 p.2.fc.day, .int .i64 p.2.fc.byy, .int .i64 p.2.fc.too, .int .i64 p.2.fc.am] 26)).alloc (.cells #[.int .i64 p.2.fc.en, .string p.2.fc.kd, .int .i64 p.2.fc.day, .int .i64 p.2.fc.byy, .int .i64 p.2.fc.too, .int .i64 p.2.fc.am] 24)
            obtain ⟨A2, c2, w3, hrun, hof3, hb3, hk3⟩ := hof2.append (SF.one (w1.alloc (.cells #[.int .i64 p.2.op, .bool false, .int .i64 p.2.fc.en, .string p.2.fc.kd, .int .i64 p.2.fc.day, .int .i64 p.2.fc.byy, .int .i64 p.2.fc.too, .int .i64 p.2.fc.am] 26)) p.2.fc 24) 1 (by omega) (le_alloc (le_alloc hx1.lt _) _)
            rw [show (w1.alloc (.cells #[.int .i64 p.2.op, .bool false, .int .i64 p.2.fc.en, .string p.2.fc.kd, .int .i64 p.2.fc.day, .int .i64 p.2.fc.byy, .int .i64 p.2.fc.too, .int .i64 p.2.fc.am] 26)).heap.size = w1.heap.size + 1 from by simp] at hrun
            have hmp3 : IMp w3 w.heap.size (vmap vs) := (hk3 _ hmp2.lt (ne_of_own (hof2.ne hmp2 (fun cs e => by cases e)))).trans hmp2
            have hit3 : IIt w3 wo.heap.size w.heap.size (vmap vs).length (is ++ [i]) := (hk3 _ hit2.lt (ne_of_own (hof2.ne hit2 (fun cs e => by cases e)))).trans hit2
            have hx3 : Ext w w3 := Below.trans ((hx1.alloc _).alloc _) (hb3 _ (Nat.le_refl _))
            have HRS2 := Lib.hid hrs2
            have hof4 : OF w3 w.heap.size (.slice A2 (out ++ [p.2.fc]).length c2) (out ++ [p.2.fc]) := by simpa using hof3
            have HOF1 := Lib.hid hof4
            have HMP1 := Lib.hid hmp3
            have HIT1 := Lib.hid hit3
            have HX1 := Lib.hid hx3
            clear hrs2 hof1 hmp1 hit1 hx1 hrs hp hni hof2 hmp2 hit2 hof3 hb3 hk3 hmp3 hit3 hx3 hof4
            go_wp2_with (first | (at_builtin; refine wpList_append_run (s := .tmp 37) (x := .tmp 40) hrun rfl rfl rfl rfl rfl ?_))
            exact ⟨⟨is ++ [i], out ++ [p.2.fc], A2, c2, by simp, HRS2.out, HOF1.out, HMP1.out, HIT1.out, HX1.out⟩, by rw [HIT1.out.seen, HSEEN.out]; simpa using HM1.out⟩
          · have hrs2 := hrs.step hp hni (o := []) (by rw [hst]; rfl)
            rw [List.append_nil] at hrs2
            have HRS2 := Lib.hid hrs2
            have HOF1 := Lib.hid (hof1.alloc (.cells #[.int .i64 p.2.op, .bool true, .int .i64 p.2.fc.en, .string p.2.fc.kd, .int .i64 p.2.fc.day, .int .i64 p.2.fc.byy, .int .i64 p.2.fc.too, .int .i64 p.2.fc.am] 26))
            have HMP1 := Lib.hid (hmp1.alloc (.cells #[.int .i64 p.2.op, .bool true, .int .i64 p.2.fc.en, .string p.2.fc.kd, .int .i64 p.2.fc.day, .int .i64 p.2.fc.byy, .int .i64 p.2.fc.too, .int .i64 p.2.fc.am] 26))
            have HIT1 := Lib.hid (hit1.alloc (.cells #[.int .i64 p.2.op, .bool true, .int .i64 p.2.fc.en, .string p.2.fc.kd, .int .i64 p.2.fc.day, .int .i64 p.2.fc.byy, .int .i64 p.2.fc.too, .int .i64 p.2.fc.am] 26))
            have HX1 := Lib.hid (hx1.alloc (.cells #[.int .i64 p.2.op, .bool true, .int .i64 p.2.fc.en, .string p.2.fc.kd, .int .i64 p.2.fc.day, .int .i64 p.2.fc.byy, .int .i64 p.2.fc.too, .int .i64 p.2.fc.am] 26))
            clear hrs2 hof1 hmp1 hit1 hx1 hrs hp hni
            go_wp2
            exact ⟨⟨is ++ [i], out, A', c', rfl, HRS2.out, HOF1.out, HMP1.out, HIT1.out, HX1.out⟩, by rw [HIT1.out.seen, HSEEN.out]; simpa using HM1.out⟩
end Go.Proofs.YtngjghblpbdciaaGreatDoor.Fa

/- clear on the rest of a row of the call's own. -/
namespace Go.Proofs.YtngjghblpbdciaaGreatDoor.Fa
open Go Go.RowKit

theorem run_clear_own {P : Program} {w : World} {base : Nat} {t e ty : TypeId} {z : Value} {size : Nat} (ht : P.underlying t = some (.slice e)) (hz : (zeroValue e).run P w = .ok z w) (hzs : z.cells.size = size) (hz1 : ∀ u ∈ z.cells.toList, u.oneCell' = true)
    {g n cap : Nat} {xs : List Value} (hown : w.ownsRow base e size (.slice (some ⟨g, 0, none⟩) n cap) n xs) {i : Nat} (hi : i ≤ n) (c' : Nat) (A : Option Addr) (hA : i < n → A = some ⟨g, i * size, none⟩) :
    ∃ w', (Builtin.clear_ #[t] ty #[.slice A (n - i) c']).run P w = .ok (.tuple #[]) w' ∧ w'.ownsRow base e size (.slice (some ⟨g, 0, none⟩) i cap) i (xs.take (i * size)) ∧ w.grownBy w' (some g) := by
  obtain ⟨hxl, hh⟩ := hown
  rcases hh with ⟨h1, _⟩ | ⟨g', cap', cur, h1, hb, hg, hn, hm, hcs, htake⟩
  · simp at h1
  · simp only [Value.slice.injEq, Option.some.injEq, Addr.mk.injEq, and_true, true_and] at h1
    obtain ⟨rfl, rfl⟩ := h1
    have hmul : i * size ≤ n * size := Nat.mul_le_mul_right _ hi
    have hmul2 : n * size ≤ cap * size := Nat.mul_le_mul_right _ hn
    by_cases hin : i < n
    · obtain rfl := hA hin
      have hlen : (Builtin.zeroCells z.cells (n - i)).toList.length = (n - i) * size := by rw [Array.length_toList, size_zeroCells, hzs]
      have hfit : i * size + 0 + (Builtin.zeroCells z.cells (n - i)).toList.length ≤ cur.size := by rw [hlen, hcs, Nat.sub_mul]; omega
      have hone : ∀ v ∈ (Builtin.zeroCells z.cells (n - i)).toList, v.oneCell' = true := by
        intro v hv
        simp only [Builtin.zeroCells] at hv
        obtain ⟨j, hj, rfl⟩ := List.mem_map.1 (by simpa only [Array.toList_map] using hv)
        have hj2 : j < (n - i) * z.cells.size := by simpa using hj
        have hpos : 0 < z.cells.size := by
          rcases Nat.eq_zero_or_pos z.cells.size with h | h
          · rw [h] at hj2; simp at hj2
          · exact h
        have hlt := Nat.mod_lt j hpos
        rw [getElem!_pos z.cells (j % z.cells.size) hlt]
        exact hz1 _ (by simp)
      have hr := run_storeCells_at P g (i * size) e (Builtin.zeroCells z.cells (n - i)).toList 0 cur w hg hfit hone
      have hne : n - i ≠ 0 := by omega
      obtain ⟨k, hk⟩ : ∃ k, n - i = k + 1 := ⟨n - i - 1, by omega⟩
      refine ⟨w.setRow g (cur.toList.take (i * size + 0) ++ (Builtin.zeroCells z.cells (n - i)).toList ++ cur.toList.drop (i * size + 0 + (Builtin.zeroCells z.cells (n - i)).toList.length)).toArray, ?_, ⟨?_, .inr ⟨g, cap, (cur.toList.take (i * size + 0) ++ (Builtin.zeroCells z.cells (n - i)).toList ++ cur.toList.drop (i * size + 0 + (Builtin.zeroCells z.cells (n - i)).toList.length)).toArray, rfl, hb, setRow_heap w g cur _ e _ hg, Nat.le_trans hi hn, hm, ?_, ?_⟩⟩, ⟨rfl, rfl, rfl, by simp, fun j _ hj => setRow_other w g j _ (fun e => hj (by rw [e]))⟩⟩
      · rw [hk] at hr ⊢
        simp only [Builtin.clear_, List.getElem?_toArray, List.getElem?_cons_zero, Sem.run_bind, run_underlying ht, Result.andThen, hz, hr, Sem.run_pure]
      · rw [List.length_take, hxl]; omega
      · simp only [List.size_toArray, List.length_append, List.length_take, List.length_drop, Array.length_toList, hlen, hcs, Nat.sub_mul]
        have : (n - i) * size = n * size - i * size := Nat.sub_mul _ _ _
        omega
      · rw [← htake, List.take_take, Nat.min_eq_left hmul]
        simp only [Nat.add_zero, List.append_assoc]
        rw [List.take_append_of_le_length (by rw [List.length_take, Array.length_toList, hcs]; omega), List.take_take, Nat.min_self]
    · obtain rfl : i = n := by omega
      refine ⟨w, ?_, ⟨by rw [List.take_of_length_le (by rw [hxl]; exact Nat.le_refl _)]; exact hxl, .inr ⟨g, cap, cur, rfl, hb, hg, hn, hm, hcs, by rw [← htake, List.take_take, Nat.min_self]⟩⟩, World.grownBy.refl w _⟩
      rw [Nat.sub_self]
      cases A <;> simp [Builtin.clear_, run_underlying ht, Result.andThen]
end Go.Proofs.YtngjghblpbdciaaGreatDoor.Fa
