/- A slice of integers as an argument, opened. -/
import Derived.Test.YtnpenepdechkjaaGreatDoorLaid
import Derived.Test.YtnpenepdechkjaaGreatDoorKc
import Derived.Deep.Slices
import Derived.ChangeArms
import Derived.OpenShut
namespace Go.Proofs.YtnpenepdechkjaaGreatDoor
open Go Go.RowKit Go.WideShapes Go.ChangeShapes Go.Deep

theorem cellsI : Tryz.prog.cellsOf 3 = 1 := by kernel_rfl
theorem add_noneI (b off n : Nat) : (⟨b, off, none⟩ : Addr).add n = ⟨b, off + n, none⟩ := by
 by_cases h : n = 0
 ·subst h; simp [Addr.add]
 ·simp [Addr.add, h]
section
variable {H : Type} {enc : TypeId × Value → H} {w : World} {base : Nat} {spare : Nat → Bool} {held : Bool}
theorem open_intl {a0 : Option Addr} {len cap fuel : Nat} {x : DataW H × List MemPlace} (h : DataW.trod enc Tryz.prog w base spare held fuel 35 (Value.slice a0 len cap).cells.toList = some x) :
  ∃ l : List Int, len = l.length ∧ len ≤ cap ∧ cap ≤ 9223372036854775807 ∧ SL icf 1 w a0 len l ∧ ∀ n ∈ l, -9223372036854775808 ≤ n ∧ n ≤ 9223372036854775807 := by
 rcases open_slice Tryz.underlying35 h with ⟨hcs, _⟩ | ⟨a, len', cap', m, n, D, Pl, hcs, _, hl, hm, hmm, hx, hi⟩
 ·simp [Value.cells] at hcs
  obtain ⟨rfl, rfl, rfl⟩ := hcs
  exact ⟨[], rfl, Nat.le_refl _, by decide, SL.nil _, fun n h => by cases h⟩
 ·simp [Value.cells] at hcs
  obtain ⟨rfl, rfl, rfl⟩ := hcs
  have hlm : len ≤ m := by rw [hmm]; split <;> omega
  have hall : ∀ i : Nat, ∃ t : Int, i < len → (-9223372036854775808 ≤ t ∧ t ≤ 9223372036854775807) ∧ w.cell? (a.add i) = some (.int .i64 t) := fun i => by
   by_cases hil : i < len
   ·obtain ⟨cs', h1, h2⟩ := hi i (by omega)
    rw [cellsI, Nat.mul_one] at h1
    obtain ⟨t, rfl, _, hw⟩ := DataW.trod_int Tryz.underlying3 h2
    obtain ⟨_, _, h3⟩ := World.cells?_some h1
    refine ⟨t, fun _ => ⟨bounds_i64 hw, ?_⟩⟩
    have := h3 0 (by omega)
    rw [Go.Deep.add_add, Nat.add_zero] at this
    rw [this]; rfl
   ·exact ⟨0, fun h => absurd h hil⟩
  obtain ⟨F, hF⟩ := Classical.axiomOfChoice hall
  refine ⟨(List.range len).map F, by simp, hl, by simpa [maxLen] using hm, ⟨by simp, fun h0 => ?_⟩, fun n hn => ?_⟩
  ·obtain ⟨b, off, spot⟩ := a
   have hc := (hF 0 h0).2
   have hspot : spot = none := by simpa [Addr.add] using World.cell?_spot hc
   subst hspot
   have hb : b < w.heap.size := by
    have hc' : w.cell? ⟨b, off, none⟩ = some (.int .i64 (F 0)) := by rw [add_noneI] at hc; exact hc
    by_cases hb : b < w.heap.size
    ·exact hb
    ·exfalso
     unfold World.cell? at hc'
     rw [show w.heap[b]? = none from Array.getElem?_eq_none (by omega)] at hc'
     simp at hc'
   refine ⟨b, off, rfl, hb, fun i t hti j u hu => ?_⟩
   have hil : i < len := by
    have := (List.getElem?_eq_some_iff.1 hti).1
    simpa using this
   have ht : F i = t := by simpa [hil] using hti
   obtain rfl : j = 0 := by
    have := (List.getElem?_eq_some_iff.1 hu).1
    simpa [icf] using this
   obtain rfl : (.int .i64 t : Value) = u := Option.some.inj hu
   have := (hF i hil).2
   rw [add_noneI, ht] at this
   rw [Nat.mul_one, Nat.add_zero]; exact this
  ·obtain ⟨i, hi2, rfl⟩ := List.mem_map.1 hn
   exact (hF i (by simpa using hi2)).1
end
end Go.Proofs.YtnpenepdechkjaaGreatDoor
