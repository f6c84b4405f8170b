/- The reference's among, operators, Level. -/
import Derived.Test.YtnpenepdechkjaaGreatDoorVb
import Derived.Test.YtnpenepdechkjaaGreatDoorKd
namespace Go.Proofs.YtnpenepdechkjaaGreatDoor
open Go Go.RowKit

theorem SR.ext {X X' : World} {g : Nat} {ss : List (List UInt8)} (h : SR X g ss) (hx : Ext X X') : SR X' g ss := h.mv (b := g + 1) (Mv.of_ext hx) (by omega)
def opsL (L : Nat) : List (List UInt8) := if L = 1 then [wOr] else if L = 2 then [wAnd] else if L = 4 then cmpOps else if L = 5 then [wPlus, wMinus] else [wStar]
theorem operators_any (L : Nat) (hL : L = 1 ∨ L = 2 ∨ L = 4 ∨ L = 5) (W : World) : Calls Tryz.prog 134 #[.int .i64 L] W (fun e W' => ∃ g : Nat, e = .returned (.slice (some ⟨g, 0, none⟩) (opsL L).length (opsL L).length) ∧ SR W' g (opsL L) ∧ Ext W W') := by
  rcases hL with rfl | rfl | rfl | rfl
  · have hsr := SR.new W (opsL 1) #[.string ⟨#[111, 114]⟩] rfl
    have HSR := Lib.hid hsr
    clear hsr
    go_enter Tryz.func134, Tryz.ntmps134
    go_wp2
    go_ret
    exact ⟨_, rfl, HSR.out, (Ext.refl _).alloc _⟩
  · have hsr := SR.new W (opsL 2) #[.string ⟨#[97, 110, 100]⟩] rfl
    have HSR := Lib.hid hsr
    clear hsr
    go_enter Tryz.func134, Tryz.ntmps134
    go_wp2
    go_ret
    exact ⟨_, rfl, HSR.out, (Ext.refl _).alloc _⟩
  · have hsr := SR.new W (opsL 4) #[.string ⟨#[60]⟩, .string ⟨#[60, 61]⟩, .string ⟨#[61]⟩, .string ⟨#[33, 61]⟩, .string ⟨#[62]⟩, .string ⟨#[62, 61]⟩] rfl
    have HSR := Lib.hid hsr
    clear hsr
    go_enter Tryz.func134, Tryz.ntmps134
    go_wp2
    go_ret
    exact ⟨_, rfl, HSR.out, (Ext.refl _).alloc _⟩
  · have hsr := SR.new W (opsL 5) #[.string ⟨#[43]⟩, .string ⟨#[45]⟩] rfl
    have HSR := Lib.hid hsr
    clear hsr
    go_enter Tryz.func134, Tryz.ntmps134
    go_wp2
    go_ret
    exact ⟨_, rfl, HSR.out, (Ext.refl _).alloc _⟩
end Go.Proofs.YtnpenepdechkjaaGreatDoor
