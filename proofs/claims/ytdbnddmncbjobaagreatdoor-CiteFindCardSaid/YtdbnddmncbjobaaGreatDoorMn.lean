/- The law CiteFind, with what the listed variables give. -/
import Derived.Test.YtdbnddmncbjobaaGreatDoorMk
import Derived.Test.YtdbnddmncbjobaaGreatDoorMm
import Derived.Test.YtdbnddmncbjobaaGreatDoorMa
import Derived.Test.YtdbnddmncbjobaaGreatDoorLaid
import Derived.WalkKit
import Derived.OpenShut
import Derived.ChangeOld
import Derived.ChangeArms
namespace Go.Proofs.YtdbnddmncbjobaaGreatDoor
open Go Go.RowKit

theorem find_all (A : Option Addr) (c : Nat) (l : List Int) (nn : Int) (k0 k1 k2 k3 a v wd : Int) (w : World) (hl : IL w A c l) (hll : l.length ≤ 9223372036854775807)
    (hnn : -9223372036854775808 ≤ nn ∧ nn ≤ 9223372036854775807) (hk3 : -9223372036854775808 ≤ k3 ∧ k3 ≤ 9223372036854775807) (ha : -9223372036854775808 ≤ a ∧ a ≤ 9223372036854775807) (hv : -9223372036854775808 ≤ v ∧ v ≤ 9223372036854775807) (hw : -9223372036854775808 ≤ wd ∧ wd ≤ 9223372036854775807) (hE : Env w) (hL : EnvW w) :
    Calls Tryz.prog 10 #[.slice A l.length c, .int .i64 nn, .agg #[.int .i64 k0, .int .i64 k1, .int .i64 k2, .int .i64 k3], .int .i64 a, .int .i64 v, .int .i64 wd] w (fun e w' => e = .returned (.bool true) ∧ Ext w w') :=
  find_law A c l nn k0 k1 k2 k3 a v wd w hL (fun X hX => lives_any X (hE.ext hX)) hl hll hnn hk3 ha hv hw
end Go.Proofs.YtdbnddmncbjobaaGreatDoor

/- A citation that came in, opened. -/
namespace Go.Proofs.YtdbnddmncbjobaaGreatDoor
open Go Go.RowKit Go.WideShapes Go.ChangeShapes

theorem fldK {fs : Array Field} {i t o : Nat} (h : (fs[i]?).map (fun f => (f.type, f.offset)) = some (t, o)) : ∃ f, fs[i]? = some f ∧ f.type = t ∧ f.offset = o := by
  obtain ⟨f, h1, h2⟩ := Option.map_eq_some_iff.1 h
  simp only [Prod.mk.injEq] at h2
  exact ⟨f, h1, h2.1, h2.2⟩
theorem cells3K : Tryz.prog.cellsOf 3 = 1 := by kernel_rfl
theorem cells64 : Tryz.prog.cellsOf 64 = 2 := by kernel_rfl
theorem cells69 : Tryz.prog.cellsOf 69 = 4 := by kernel_rfl
theorem size64 : (Tryz.prog.fieldsOf 64).size = 2 := by kernel_rfl
theorem size69 : (Tryz.prog.fieldsOf 69).size = 3 := by kernel_rfl
theorem str64 : Tryz.prog.underlying 64 = some (.struct (Tryz.prog.fieldsOf 64)) := by kernel_rfl
theorem str69 : Tryz.prog.underlying 69 = some (.struct (Tryz.prog.fieldsOf 69)) := by kernel_rfl
section
variable {H : Type} {enc : TypeId × Value → H} {w : World} {base : Nat} {spare : Nat → Bool} {held : Bool}
theorem open_fieldK {t : TypeId} {cs : List Value} {x : DataW H × List MemPlace} {fuel : Nat} {n : Nat} (hs : Tryz.prog.underlying t = some (.struct (Tryz.prog.fieldsOf t))) (hn : (Tryz.prog.fieldsOf t).size = n) (h : DataW.trod enc Tryz.prog w base spare held fuel t cs = some x) :
    cs.length = Tryz.prog.cellsOf t ∧ ∀ i ft o, i < n → ((Tryz.prog.fieldsOf t)[i]?).map (fun f => (f.type, f.offset)) = some (ft, o) → ∃ m y, DataW.trod enc Tryz.prog w base spare held m ft ((cs.drop o).take (Tryz.prog.cellsOf ft)) = some y := by
  obtain ⟨xs, m, _, _, hlen, hxl, hf⟩ := DataW.trod_struct hs h
  refine ⟨hlen, fun i ft o hi he => ?_⟩
  obtain ⟨f, h1, h2, h3⟩ := fldK he
  have h4 := hf i f h1
  rw [h2, h3] at h4
  exact ⟨m, _, h4.trans (List.getElem?_eq_getElem (by rw [hxl, hn]; exact hi))⟩
theorem int_ofK {m : Nat} {cs : List Value} {y : DataW H × List MemPlace} (h : DataW.trod enc Tryz.prog w base spare held m 3 cs = some y) : ∃ n : Int, cs = [.int .i64 n] ∧ -9223372036854775808 ≤ n ∧ n ≤ 9223372036854775807 := by
  obtain ⟨n, e, _, hw⟩ := DataW.trod_int Tryz.underlying3 h
  exact ⟨n, e, bounds_i64 hw⟩
set_option maxRecDepth 100000 in
theorem open_cite {r : Reach} {b0 : Nat} {v : Value} {d : DataW H} {p : List MemPlace} (hv : Value.okWide Tryz.prog w r b0 69 v) (h : DataW.Trod enc Tryz.prog w base spare held 69 v d p) :
    ∃ c : Ct, v = c.val ∧ (-9223372036854775808 ≤ c.br ∧ c.br ≤ 9223372036854775807) ∧ (-9223372036854775808 ≤ c.li ∧ c.li ≤ 9223372036854775807) := by
  obtain ⟨cs, rfl, hsz⟩ := okWide_struct str69 hv
  obtain ⟨fuel, hf⟩ := h
  have hc : (Value.agg cs).cells.toList = cs.toList := by simp [Value.cells]
  rw [hc] at hf
  obtain ⟨hl, hff⟩ := open_fieldK str69 size69 hf
  rw [cells69] at hl
  obtain ⟨l⟩ := cs
  match l, hl with
  | [c0, c1, c2, c3], _ =>
    obtain ⟨_, _, g0⟩ := hff 0 3 0 (by omega) (by kernel_rfl)
    obtain ⟨_, _, g1⟩ := hff 1 64 1 (by omega) (by kernel_rfl)
    obtain ⟨_, _, g2⟩ := hff 2 3 3 (by omega) (by kernel_rfl)
    rw [cells3K] at g0 g2
    rw [cells64] at g1
    obtain ⟨_, gg⟩ := open_fieldK str64 size64 g1
    obtain ⟨_, _, k0⟩ := gg 0 3 0 (by omega) (by kernel_rfl)
    obtain ⟨_, _, k1⟩ := gg 1 3 1 (by omega) (by kernel_rfl)
    rw [cells3K] at k0 k1
    obtain ⟨n0, e0, b0⟩ := int_ofK g0
    obtain ⟨n1, e1, _⟩ := int_ofK k0
    obtain ⟨n2, e2, _⟩ := int_ofK k1
    obtain ⟨n3, e3, b3⟩ := int_ofK g2
    simp at e0 e1 e2 e3
    subst e0 e1 e2 e3
    exact ⟨⟨n0, n1, n2, n3⟩, rfl, b0, b3⟩
end
end Go.Proofs.YtdbnddmncbjobaaGreatDoor
