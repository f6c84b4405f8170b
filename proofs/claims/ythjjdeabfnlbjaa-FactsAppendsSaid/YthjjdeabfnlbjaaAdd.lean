/- The contracts of facts.present.add, facts.of, facts.Check. -/
import Derived.Test.YthjjdeabfnlbjaaValid
import Derived.Test.YthjjdeabfnlbjaaIMap
import Derived.Test.YthjjdeabfnlbjaaPlain2
namespace Go.Proofs.Ythjjdeabfnlbjaa
open Go Go.RowKit

/-- Block b is a map from int to bool that reads as P, where an entry that is not there reads as false. -/
def PM (w : World) (b : Nat) (P : Int → Bool) : Prop := ∃ es, IMp w b es ∧ ∀ k, (IM.get es k).getD (.bool false) = .bool (P k)

theorem zeroBool (w : World) : (zeroValue 4).run Try.prog w = .ok (.bool false) w := by kernel_rfl
theorem PM.look {w : World} {b : Nat} {P : Int → Bool} (h : PM w b P) (k : Int) : (Instr.lookup 52 (.map (some b)) (.int .i64 k) false).run Try.prog w = .ok (.bool (P k)) w := by
  obtain ⟨es, h1, h2⟩ := h
  rw [run_lookup_im h1 Try.underlying52 Try.underlying3 (zeroBool w)]
  simp [h2]
theorem PM.store {w : World} {b : Nat} {P : Int → Bool} (h : PM w b P) (k : Int) (x : Bool) :
    ∃ w', (Instr.mapUpdate 52 (.map (some b)) (.int .i64 k) (.bool x)).run Try.prog w = .ok () w' ∧ PM w' b (fun k' => if k' = k then x else P k') ∧ w.grownBy w' (some b) := by
  obtain ⟨es, h1, h2⟩ := h
  obtain ⟨w', hr, h3, h4⟩ := run_update_im (P := Try.prog) h1 Try.underlying52 Try.underlying3 k (.bool x)
  refine ⟨w', hr, ⟨_, h3, fun k' => ?_⟩, h4⟩
  rw [IM.get_put]
  by_cases hk : k' = k
  · simp [hk]
  · simp [hk, h2]
theorem PM.grown {w w' : World} {b : Nat} {P : Int → Bool} (h : PM w b P) {row : Option Nat} (hg : w.grownBy w' row) (hr : some b ≠ row) : PM w' b P := by
  obtain ⟨es, h1, h2⟩ := h; exact ⟨es, h1.grown hg hr, h2⟩
theorem PM.ext {w w' : World} {b : Nat} {P : Int → Bool} (h : PM w b P) (hx : Ext w w') : PM w' b P := by
  obtain ⟨es, h1, h2⟩ := h; exact ⟨es, h1.below hx h1.lt, h2⟩
theorem PM.alloc {w : World} {b : Nat} {P : Int → Bool} (h : PM w b P) (o : Obj) : PM (w.alloc o) b P := by
  obtain ⟨es, h1, h2⟩ := h; exact ⟨es, h1.alloc o, h2⟩
theorem PM.drewN {w : World} {b : Nat} {P : Int → Bool} (h : PM w b P) (n : Nat) : PM (w.drewN n) b P := h
theorem PM.lt {w : World} {b : Nat} {P : Int → Bool} (h : PM w b P) : b < w.heap.size := by obtain ⟨es, h1, _⟩ := h; exact h1.lt

def AddPost (P : Int → Bool) (b : Nat) (v : Vr) (op0 : Int) (w : World) (e : Ending) (w' : World) : Prop :=
  e = .returned (.int .i64 (addOf P v op0)) ∧ w.grownBy w' (some b) ∧ PM w' b (if addOf P v op0 = 0 then fun k => if k = v.fc.en then !v.st else P k else P)

theorem grownBy_ext {w w' : World} (h : Ext w w') (row : Option Nat) : w.grownBy w' row := ⟨h.os, h.tape, h.output, h.size, fun i hi _ => h.block i hi⟩
theorem ext_grown {w w1 w2 : World} {b : Nat} (h : Ext w w1) (hg : w1.grownBy w2 (some b)) : w.grownBy w2 (some b) :=
  ⟨hg.os.trans h.os, hg.tape.trans h.tape, hg.output.trans h.output, Nat.le_trans h.size hg.size, fun i hi hne => (hg.block i (Nat.lt_of_lt_of_le hi h.size) hne).trans (h.block i hi)⟩

set_option maxRecDepth 100000 in
set_option maxHeartbeats 2000000 in
theorem add_any (P : Int → Bool) (b : Nat) (v : Vr) (op0 : Int) (w : World) (h : PM w b P) (hs : v.fc.kd.size ≤ maxLen) :
    Calls Try.prog 35 #[.map (some b), v.val, .int .i64 op0] w (AddPost P b v op0 w) := by
  have HS := Lib.hid h; clear h
  unfold Vr.val
  by_cases h1 : v.op < 0
  · have hf : addOf P v op0 = 5 := by simp [addOf, h1]
    have HF := Lib.hid hf; clear hf
    go_enter Try.func35, Try.ntmps35
    go_wp2
    go_ret
    exact ⟨ret_int (by rw [HF.out]), grownBy_ext ((Ext.refl _).alloc _) _, by rw [HF.out]; exact HS.out.alloc _⟩
  cases hst : v.st
  · cases hok : okF v.fc
    · have hf : addOf P v op0 = 5 := by simp [addOf, h1, hst, hok]
      have HF := Lib.hid hf; clear hf
      go_enter Try.func35, Try.ntmps35
      go_wp2_with (first | (go_at_call 50; refine (valid_any v.fc _ hs).mono ?_; rintro e w1 ⟨rfl, hx⟩; obtain ⟨hc, hf⟩ := hx.cells; have hz1 : w.heap.size < w1.heap.size := (by have a1 := hx.lt; simp at a1; omega)))
      go_ret
      exact ⟨ret_int (by rw [HF.out]), grownBy_ext (((Ext.refl _).alloc _).trans hx) _, by rw [HF.out]; exact (HS.out.alloc _).ext hx⟩
    · by_cases h3 : v.op < op0
      · have hf : addOf P v op0 = 12 := by simp [addOf, h1, hst, hok, h3]
        have HF := Lib.hid hf; clear hf
        go_enter Try.func35, Try.ntmps35
        go_wp2_with (first | (go_at_call 50; refine (valid_any v.fc _ hs).mono ?_; rintro e w1 ⟨rfl, hx⟩; obtain ⟨hc, hf⟩ := hx.cells; have hz1 : w.heap.size < w1.heap.size := (by have a1 := hx.lt; simp at a1; omega)))
        go_ret
        exact ⟨ret_int (by rw [HF.out]), grownBy_ext (((Ext.refl _).alloc _).trans hx) _, by rw [HF.out]; exact (HS.out.alloc _).ext hx⟩
      · have hf : addOf P v op0 = 0 := by simp [addOf, h1, hst, hok, h3]
        have HF := Lib.hid hf; clear hf
        go_enter Try.func35, Try.ntmps35
        go_wp2_with (first | (go_at_call 50; refine (valid_any v.fc _ hs).mono ?_; rintro e w1 ⟨rfl, hx⟩; obtain ⟨hc, hf⟩ := hx.cells; have hz1 : w.heap.size < w1.heap.size := (by have a1 := hx.lt; simp at a1; omega); obtain ⟨w3, hrun, hpm, hg⟩ := ((HS.out.alloc _).ext hx).store v.fc.en (!v.st); have HPM := Lib.hid hpm; clear hpm; rw [hst] at hrun; simp only [Bool.not_false] at hrun))
        go_ret
        exact ⟨ret_int (by rw [HF.out]), ext_grown (((Ext.refl _).alloc _).trans hx) hg, by rw [HF.out]; exact HPM.out⟩
  · cases hin : inB v.fc.en 0 65535
    · have hf : addOf P v op0 = 5 := by simp [addOf, h1, hst, hin]
      have HF := Lib.hid hf; clear hf
      go_enter Try.func35, Try.ntmps35
      go_wp2_with (first | (go_at_call 49; refine (fin_any _ _ _).mono ?_; rintro e w' ⟨rfl, rfl⟩))
      go_ret
      exact ⟨ret_int (by rw [HF.out]), grownBy_ext ((Ext.refl _).alloc _) _, by rw [HF.out]; exact HS.out.alloc _⟩
    · by_cases h3 : v.op < op0
      · have hf : addOf P v op0 = 12 := by simp [addOf, h1, hst, hin, h3]
        have HF := Lib.hid hf; clear hf
        go_enter Try.func35, Try.ntmps35
        go_wp2_with (first | (go_at_call 49; refine (fin_any _ _ _).mono ?_; rintro e w' ⟨rfl, rfl⟩))
        go_ret
        exact ⟨ret_int (by rw [HF.out]), grownBy_ext ((Ext.refl _).alloc _) _, by rw [HF.out]; exact HS.out.alloc _⟩
      · have hlk := fun o => (HS.out.alloc o).look v.fc.en
        cases hP : P v.fc.en
        · have hf : addOf P v op0 = 3 := by simp [addOf, h1, hst, hin, h3, hP]
          have HF := Lib.hid hf; clear hf
          go_enter Try.func35, Try.ntmps35
          go_wp2_with (first | (go_at_call 49; refine (fin_any _ _ _).mono ?_; rintro e w' ⟨rfl, rfl⟩))
          go_ret
          exact ⟨ret_int (by rw [HF.out]), grownBy_ext ((Ext.refl _).alloc _) _, by rw [HF.out]; exact HS.out.alloc _⟩
        · have hf : addOf P v op0 = 0 := by simp [addOf, h1, hst, hin, h3, hP]
          have HF := Lib.hid hf; clear hf
          obtain ⟨w3, hrun, hpm, hg⟩ := (HS.out.alloc (.cells #[.int .i64 v.op, .bool true, .int .i64 v.fc.en, .string v.fc.kd, .int .i64 v.fc.day, .int .i64 v.fc.byy, .int .i64 v.fc.too, .int .i64 v.fc.am] 32)).store v.fc.en false
          have HPM := Lib.hid hpm; clear hpm
          go_enter Try.func35, Try.ntmps35
          go_wp2_with (first | (go_at_call 49; refine (fin_any _ _ _).mono ?_; rintro e w' ⟨rfl, rfl⟩))
          go_ret
          exact ⟨ret_int (by rw [HF.out]), ext_grown ((Ext.refl _).alloc _) hg, by rw [HF.out, hst]; exact HPM.out⟩
end Go.Proofs.Ythjjdeabfnlbjaa
