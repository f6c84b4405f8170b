/- The contract of the reference's Letters. -/
import Derived.Test.YtbfogchdeijedaaDoorValid
namespace Go.Proofs.YtbfogchdeijedaaDoor
open Go Go.RowKit

/-- The letters of a suffix. -/
def lets (u : Nat) : List UInt8 := if _h : u = 0 then [] else lets ((u - 1) / 26) ++ [UInt8.ofNat (97 + (u - 1) % 26)]
termination_by u
decreasing_by omega
theorem lets_zero : lets 0 = [] := by rw [lets, dif_pos rfl]
theorem lets_pos {u : Nat} (h : ¬ u = 0) : lets u = lets ((u - 1) / 26) ++ [UInt8.ofNat (97 + (u - 1) % 26)] := by rw [lets, dif_neg h]
theorem alph_list : ∀ d, d < 26 → ((⟨#[97, 98, 99, 100, 101, 102, 103, 104, 105, 106, 107, 108, 109, 110, 111, 112, 113, 114, 115, 116, 117, 118, 119, 120, 121, 122]⟩ : ByteArray).extract d (d + 1)).data.toList = [UInt8.ofNat (97 + d)] := by decide
def LetRel (n : Nat) (s k : Value) : Prop := ∃ (u : Nat) (t : ByteArray), u ≤ n ∧ k = .int .i64 u ∧ s = .string t ∧ t.size ≤ n - u ∧ lets u ++ t.data.toList = lets n
def letM (k : Value) : Nat := match k with | .int _ z => z.toNat | _ => 0
theorem let_done {n : Nat} {t : ByteArray} (h : lets 0 ++ t.data.toList = lets n) : t = ⟨(lets n).toArray⟩ := by
  rw [lets_zero, List.nil_append] at h
  rw [← h]
theorem let_step {n u : Nat} {x t : ByteArray} (hu : ¬ u = 0) (h : lets u ++ t.data.toList = lets n) (hx : x.data.toList = [UInt8.ofNat (97 + (u - 1) % 26)]) : lets ((u - 1) / 26) ++ (x ++ t).data.toList = lets n := by
  rw [ByteArray.data_append, Array.toList_append, hx, ← h, lets_pos hu]
  simp
theorem let_size {n u : Nat} {x t : ByteArray} (hu : ¬ u = 0) (hn : u ≤ n) (h : t.size ≤ n - u) (hx : x.data.toList = [UInt8.ofNat (97 + (u - 1) % 26)]) : (x ++ t).size ≤ n - (u - 1) / 26 := by
  have e : x.size = 1 := by have := congrArg List.length hx; simpa using this
  rw [ByteArray.size_append, e]
  omega

set_option maxRecDepth 100000 in
theorem letters_any (n : Nat) (w : World) (hn : n ≤ 100000) : Calls Tryd.prog 41 #[.int .i64 n] w fun e w' => e = .returned (.string ⟨(lets n).toArray⟩) ∧ w = w' := by
  go_enter Tryd.func41, Tryd.ntmps41
  go_wp2
  go_loop [4, 0] (fun s k => LetRel n s k) (fun _ k => letM k)
  case atStart => exact ⟨n, ByteArray.empty, Nat.le_refl _, rfl, rfl, by simp, by simp⟩
  case round =>
    obtain ⟨u, t, hu, rfl, rfl, hts, ht⟩ := hrel
    have HT := Lib.hid ht; clear ht
    by_cases hu0 : u = 0
    · subst hu0
      have hz : ¬ ((0 : Int)) < (((0 : Nat) : Int)) := by decide
      go_wp2
      go_ret
      exact ⟨congrArg (fun z => Ending.returned (.string z)) (let_done HT.out), rfl⟩
    · obtain ⟨v, rfl⟩ : ∃ v, u = v + 1 := ⟨u - 1, by omega⟩
      have hz : (0 : Int) < (((v + 1 : Nat)) : Int) := by omega
      have hc : (((v + 1 : Nat)) : Int) - 1 = (v : Int) := by omega
      have hm := Int.emod_nonneg (v : Int) (show (26 : Int) ≠ 0 by omega)
      have hm2 := Int.emod_lt_of_pos (v : Int) (show (0 : Int) < 26 by omega)
      have hm3 : min (v % 26 + 1) 26 - v % 26 + t.size ≤ 9223372036854775807 := by omega
      have hal := alph_list (v % 26) (Nat.mod_lt v (by omega))
      have hst := let_step (n := n) hu0 HT.out (x := _) (by rw [Nat.add_sub_cancel]; exact hal)
      have hsz := let_size hu0 hu hts (x := _) (by rw [Nat.add_sub_cancel]; exact hal)
      have HST := Lib.hid hst
      have HSZ := Lib.hid hsz
      clear hst hsz hal
      go_wp2
      exact ⟨⟨v / 26, _, by omega, by simp, rfl, HSZ.out, HST.out⟩, by simp [letM]; omega⟩
end Go.Proofs.YtbfogchdeijedaaDoor
