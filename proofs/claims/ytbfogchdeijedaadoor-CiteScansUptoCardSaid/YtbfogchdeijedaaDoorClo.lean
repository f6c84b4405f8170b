/- The contracts of the two closures of cite.Parse: what they do to the two captured variables. -/
import Derived.Test.YtbfogchdeijedaaDoorLp
namespace Go.Proofs.YtbfogchdeijedaaDoor
open Go Go.RowKit

theorem Ext.setCell {a w : World} (h : Ext a w) {p : Addr} (hp : a.heap.size ≤ p.block) (u : Value) : Ext a (w.setCell p u) := Below.setCell h hp u
/-- The captured variables 'rest' and 'ok' lie in the blocks n + 1 and n + 2. -/
structure PSt (w W : World) (r : ByteArray) (k : Bool) : Prop where
  ext : Ext w W
  size : w.heap.size + 3 ≤ W.heap.size
  rest : W.cell? ⟨w.heap.size + 1, 0, none⟩ = some (.string r)
  ok : W.cell? ⟨w.heap.size + 2, 0, none⟩ = some (.bool k)
  frest : W.frozen? ⟨w.heap.size + 1, 0, none⟩ = false
  fok : W.frozen? ⟨w.heap.size + 2, 0, none⟩ = false
/-- All blocks but those two are as they were. -/
structure Keep (w W W' : World) : Prop where
  size : W.heap.size ≤ W'.heap.size
  cell : ∀ b o, b ≠ w.heap.size + 1 → b ≠ w.heap.size + 2 → b < W.heap.size → W'.cell? ⟨b, o, none⟩ = W.cell? ⟨b, o, none⟩
  frozen : ∀ b o, b ≠ w.heap.size + 1 → b ≠ w.heap.size + 2 → b < W.heap.size → W'.frozen? ⟨b, o, none⟩ = W.frozen? ⟨b, o, none⟩
theorem Keep.trans {w a b c : World} (h : Keep w a b) (k : Keep w b c) : Keep w a c :=
  ⟨Nat.le_trans h.size k.size, fun x o h1 h2 h3 => (k.cell x o h1 h2 (Nat.lt_of_lt_of_le h3 h.size)).trans (h.cell x o h1 h2 h3), fun x o h1 h2 h3 => (k.frozen x o h1 h2 (Nat.lt_of_lt_of_le h3 h.size)).trans (h.frozen x o h1 h2 h3)⟩
theorem Keep.ext {w a b : World} (h : Ext a b) : Keep w a b := by
  obtain ⟨q, p⟩ := h.cells
  exact ⟨h.lt, fun x o _ _ h3 => q x o h3, fun x o _ _ h3 => p x o h3⟩
theorem PSt.mono {w W W' : World} {r : ByteArray} {k : Bool} (h : PSt w W r k) (hx : Ext W W') : PSt w W' r k := by
  obtain ⟨q, p⟩ := hx.cells
  have hs := h.size
  exact ⟨h.ext.trans hx, Nat.le_trans h.size hx.lt, by rw [q _ _ (by omega)]; exact h.rest, by rw [q _ _ (by omega)]; exact h.ok, by rw [p _ _ (by omega)]; exact h.frest, by rw [p _ _ (by omega)]; exact h.fok⟩
theorem PSt.setOk {w W : World} {r : ByteArray} {k : Bool} (h : PSt w W r k) (k' : Bool) : PSt w (W.setCell ⟨w.heap.size + 2, 0, none⟩ (.bool k')) r k' :=
  ⟨h.ext.setCell (by show w.heap.size ≤ w.heap.size + 2; omega) _, by simpa using h.size, by rw [World.cell?_setCell_other _ _ _ _ (by simp)]; exact h.rest, World.cell?_setCell_same _ _ _ h.ok, by rw [World.frozen?_setCell]; exact h.frest, by rw [World.frozen?_setCell]; exact h.fok⟩
theorem PSt.setRest {w W : World} {r : ByteArray} {k : Bool} (h : PSt w W r k) (r' : ByteArray) : PSt w (W.setCell ⟨w.heap.size + 1, 0, none⟩ (.string r')) r' k :=
  ⟨h.ext.setCell (by show w.heap.size ≤ w.heap.size + 1; omega) _, by simpa using h.size, World.cell?_setCell_same _ _ _ h.rest, by rw [World.cell?_setCell_other _ _ _ _ (by simp)]; exact h.ok, by rw [World.frozen?_setCell]; exact h.frest, by rw [World.frozen?_setCell]; exact h.fok⟩
theorem Keep.setOk {w a W : World} (h : Keep w a W) (v : Value) : Keep w a (W.setCell ⟨w.heap.size + 2, 0, none⟩ v) :=
  ⟨by simpa using h.size, fun x o h1 h2 h3 => by rw [World.cell?_setCell_other _ _ _ _ (by intro e; injection e with e1; exact h2 e1.symm)]; exact h.cell x o h1 h2 h3, fun x o h1 h2 h3 => by rw [World.frozen?_setCell]; exact h.frozen x o h1 h2 h3⟩
theorem Keep.setRest {w a W : World} (h : Keep w a W) (v : Value) : Keep w a (W.setCell ⟨w.heap.size + 1, 0, none⟩ v) :=
  ⟨by simpa using h.size, fun x o h1 h2 h3 => by rw [World.cell?_setCell_other _ _ _ _ (by intro e; injection e with e1; exact h1 e1.symm)]; exact h.cell x o h1 h2 h3, fun x o h1 h2 h3 => by rw [World.frozen?_setCell]; exact h.frozen x o h1 h2 h3⟩

def PartPost (w W : World) (a : List UInt8) (r : ByteArray) (k : Bool) (e : Ending) (W' : World) : Prop := e = .returned (.string ⟨a.toArray⟩) ∧ PSt w W' r k ∧ Keep w W W'
set_option maxRecDepth 100000 in
theorem part_any (w W : World) (r : ByteArray) (k : Bool) (a b : List UInt8) (f : Bool) (hr : r.size ≤ 281474976710656) (hc : CutIs r a b f) (hS : PSt w W r k) :
    Calls Tryd.prog 24 #[.pointer (some ⟨w.heap.size + 1, 0, none⟩), .pointer (some ⟨w.heap.size + 2, 0, none⟩)] W (PartPost w W a ⟨b.toArray⟩ (k && f)) := by
  have HC := Lib.hid (fun X => cut1_any r hr X a b f hc)
  have HS := Lib.hid hS
  have c1 := hS.rest
  clear hc
  cases k
  · go_enter Tryd.func24, Tryd.ntmps24
    go_wp2_with (first | (go_at_call 25; refine (HC.out _).mono ?_; rintro e w1 ⟨rfl, hx⟩; have hS1 := HS.out.mono hx; have c2 := hS1.rest; have c3 := hS1.ok; have c4 := hS1.frest; have c5 := hS1.fok))
    go_ret
    exact ⟨rfl, (hS1.setRest _).setOk _, ((Keep.ext hx).setRest _).setOk _⟩
  · go_enter Tryd.func24, Tryd.ntmps24
    go_wp2_with (first | (go_at_call 25; refine (HC.out _).mono ?_; rintro e w1 ⟨rfl, hx⟩; have hS1 := HS.out.mono hx; have c2 := hS1.rest; have c3 := hS1.ok; have c4 := hS1.frest; have c5 := hS1.fok))
    go_ret
    exact ⟨rfl, (hS1.setRest _).setOk _, ((Keep.ext hx).setRest _).setOk _⟩
end Go.Proofs.YtbfogchdeijedaaDoor
