/- The reference's among, operators, Level. -/
import Derived.Test.YtnpenepdechkjaaGreatDoorVb
import Derived.Test.YtnpenepdechkjaaGreatDoorKd
namespace Go.Proofs.YtnpenepdechkjaaGreatDoor
open Go Go.RowKit

def AmRel (W : World) (ss : List (List UInt8)) (s : List UInt8) (s5 : Value) (X : World) : Prop := ∃ j : Nat, j ≤ ss.length ∧ s5 = .int .i64 j ∧ s ∉ ss.take j ∧ Ext W X
theorem SR.ext {X X' : World} {g : Nat} {ss : List (List UInt8)} (h : SR X g ss) (hx : Ext X X') : SR X' g ss := h.mv (b := g + 1) (Mv.of_ext hx) (by omega)
set_option maxRecDepth 100000 in
theorem among_any (ss : List (List UInt8)) (g c : Nat) (s : List UInt8) (S : ByteArray) (hS : S = bs s) (W : World) (h : SR W g ss) (hl : ss.length ≤ 100) : Calls Tryz.prog 146 #[.slice (some ⟨g, 0, none⟩) ss.length c, .string S] W (BQ2 (decide (s ∈ ss)) W) := by
  have HR := Lib.hid h
  have HS := Lib.hid hS
  have hgl := h.lt
  clear h hS
  go_enter Tryz.func146, Tryz.ntmps146
  go_wp2
  go_loopw [5] (fun s5 X => AmRel W ss s s5 X) (fun s5 _ => toM ss.length s5)
  case atStart => exact ⟨0, Nat.zero_le _, rfl, by simp, Ext.refl _⟩
  case round =>
    obtain ⟨j, hj, rfl, hn, hx⟩ := hrel
    have HN := Lib.hid hn
    have HX := Lib.hid hx
    have hgl2 := Nat.lt_of_lt_of_le hgl hx.lt
    clear hn hx
    by_cases hlt : j < ss.length
    · have hI : (j : Int) < (ss.length : Int) := by omega
      obtain ⟨x, hx⟩ : ∃ x, ss[j]? = some x := ⟨_, List.getElem?_eq_getElem hlt⟩
      have q0 := (HR.out.ext HX.out).at_ j x hx
      have HYtnpenepdechkjaaGreatDoor := Lib.hid hx
      obtain ⟨Z, hZ⟩ : ∃ Z, Z = bs x := ⟨_, rfl⟩
      rw [← hZ] at q0
      clear hx
      by_cases he : x = s
      · have t1 := bs_eq hZ HS.out he
        have HV := Lib.hid (show decide (s ∈ ss) = true from decide_eq_true (by rw [← he]; exact List.mem_of_getElem? HYtnpenepdechkjaaGreatDoor.out))
        clear hZ he
        go_wp2
        go_ret
        exact ⟨ret_bool HV.out.symm, HX.out⟩
      · have t1 := bs_ne hZ HS.out he
        have HE := Lib.hid he
        clear hZ he
        go_wp2
        refine ⟨⟨j + 1, by omega, by simp, ?_, HX.out⟩, by simp only [toM]; omega⟩
        rw [List.take_add_one, HYtnpenepdechkjaaGreatDoor.out]
        intro hm
        rcases List.mem_append.1 hm with h1 | h1
        · exact HN.out h1
        · have h2 : s = x := by simpa using h1
          exact HE.out h2.symm
    · obtain rfl : j = ss.length := by omega
      have hni : ¬ ((ss.length : Int) < (ss.length : Int)) := by omega
      have HV := Lib.hid (show decide (s ∈ ss) = false from decide_eq_false (by have := HN.out; rwa [List.take_length] at this))
      go_wp2
      go_ret
      exact ⟨ret_bool HV.out.symm, HX.out⟩
def opsL (L : Nat) : List (List UInt8) := if L = 1 then [wOr] else if L = 2 then [wAnd] else if L = 4 then cmpOps else if L = 5 then [wPlus, wMinus] else [wStar]
theorem operators_any (L : Nat) (hL : L = 1 ∨ L = 2 ∨ L = 4 ∨ L = 5) (W : World) : Calls Tryz.prog 134 #[.int .i64 L] W (fun e W' => ∃ g : Nat, e = .returned (.slice (some ⟨g, 0, none⟩) (opsL L).length (opsL L).length) ∧ SR W' g (opsL L) ∧ Ext W W') := by
  rcases hL with rfl | rfl | rfl | rfl
  · have hsr := SR.new W (opsL 1) #[.string ⟨#[111, 114]⟩] rfl
    have HSR := Lib.hid hsr
    clear hsr
    go_enter Tryz.func134, Tryz.ntmps134
    go_wp2
    go_ret
    exact ⟨_, rfl, HSR.out, (Ext.refl _).alloc _⟩
  · have hsr := SR.new W (opsL 2) #[.string ⟨#[97, 110, 100]⟩] rfl
    have HSR := Lib.hid hsr
    clear hsr
    go_enter Tryz.func134, Tryz.ntmps134
    go_wp2
    go_ret
    exact ⟨_, rfl, HSR.out, (Ext.refl _).alloc _⟩
  · have hsr := SR.new W (opsL 4) #[.string ⟨#[60]⟩, .string ⟨#[60, 61]⟩, .string ⟨#[61]⟩, .string ⟨#[33, 61]⟩, .string ⟨#[62]⟩, .string ⟨#[62, 61]⟩] rfl
    have HSR := Lib.hid hsr
    clear hsr
    go_enter Tryz.func134, Tryz.ntmps134
    go_wp2
    go_ret
    exact ⟨_, rfl, HSR.out, (Ext.refl _).alloc _⟩
  · have hsr := SR.new W (opsL 5) #[.string ⟨#[43]⟩, .string ⟨#[45]⟩] rfl
    have HSR := Lib.hid hsr
    clear hsr
    go_enter Tryz.func134, Tryz.ntmps134
    go_wp2
    go_ret
    exact ⟨_, rfl, HSR.out, (Ext.refl _).alloc _⟩
theorem lv_mem {s : List UInt8} (h : 1 ≤ lvOf s) : s ∈ opl := by
  unfold lvOf at h
  split at h
  · rename_i e; rw [e]; decide
  split at h
  · rename_i e; rw [e]; decide
  split at h
  · rename_i e; exact (by decide : ∀ s ∈ cmpOps, s ∈ opl) s e
  split at h
  · rename_i e; rcases e with e | e <;> rw [e] <;> decide
  split at h
  · rename_i e; rw [e]; decide
  · omega
end Go.Proofs.YtnpenepdechkjaaGreatDoor
