/- What the frame of CiteFrozen's row asks of the program, part by part. -/
import Derived.Test.YtdbnddmncbjobaaGreatDoorRows
import Derived.ClosedOfChecked
import Derived.JoinedCond
namespace Go.Proofs.YtdbnddmncbjobaaGreatDoor
open Go

theorem jf_ty : Tryz.checked.prog.types = Tryz.checked.src.types := by kernel_rfl
theorem jf_rest : (Tryz.checked.prog.globals.all (fun g => decide (g.type < Tryz.checked.prog.types.size)) && Tryz.checked.prog.funcs.all (fun f => f.params.all fun t => decide (t < Tryz.checked.prog.types.size))) = true := by kernel_rfl
theorem jf_keys : ClosedOfChecked.keysListB Tryz.checked.prog = true := by kernel_rfl
theorem jf_closed : laidOutB Tryz.checked.prog = true ∧ mapsRowed Tryz.checked.prog = true ∧ Tryz.checked.prog.plainKeys = true := ClosedOfChecked.closed_of_checked Tryz.checked jf_ty jf_rest jf_keys
theorem band {a b : Bool} (h : a = true) (k : b = true) : (a && b) = true := by rw [h, k]; rfl
end Go.Proofs.YtdbnddmncbjobaaGreatDoor
