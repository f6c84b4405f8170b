/- The contract of label.Text on valid labels. -/
import Derived.Test.YtbfogchdeijedaaDoorLet
import Derived.Lib.ItoaNum
import Derived.Test.YtbfogchdeijedaaDoorShelf
import Derived.Lib.AppendIntMem
import Derived.Lib.ItoaLen
namespace Go.Proofs.YtbfogchdeijedaaDoor
open Go Go.RowKit

theorem enc_list : ∀ d : Nat, d < 26 → (Utf8.encode (97 + ((d : Nat) : Int))).data.toList = [UInt8.ofNat (97 + d)] := by decide
/-- The table that Itoa reads, in every world that grows from w. -/
def Tab (w : World) : Prop := ∀ W, Ext w W → Lib.TabIs Tryd.prog W "internal/strconv.uint64pow10" .u64 Lib.pow10Tab
theorem Tab.ext {w w' : World} (h : Tab w) (hx : Ext w w') : Tab w' := fun W hW => h W (hx.trans hW)
theorem size_one {x : ByteArray} {c : UInt8} (h : x.data.toList = [c]) : x.size = 1 := by have := congrArg List.length h; simpa using this
theorem ba_append (a b : List UInt8) : (⟨a.toArray⟩ : ByteArray) ++ ⟨b.toArray⟩ = ⟨(a ++ b).toArray⟩ := by
  apply ByteArray.ext
  simp [ByteArray.data_append]
def LTextPost (n s : Nat) (w : World) (e : Ending) (w' : World) : Prop := e = .returned (.string ⟨(Lib.decDigits n ++ lets s).toArray⟩) ∧ Ext w w'
set_option maxRecDepth 100000 in
theorem ltext_any (n s : Nat) (w : World) (hn : 1 ≤ n ∧ n ≤ 16384) (hs : s ≤ 16384) (htab : Tab w) : Calls Tryd.prog 14 #[.agg #[.int .i64 n, .int .i64 s]] w (LTextPost n s w) := by
  have HTAB := Lib.hid htab; clear htab
  have hl : labE n s = 0 := labE_ok (by omega) (by omega) (by omega) (by omega)
  have HE := Lib.hid hl; clear hl
  go_enter Tryd.func14, Tryd.ntmps14
  go_wp2_with (first | (go_at_call 32; refine (chk_any n s _).mono ?_; rintro e w1 ⟨rfl, hx⟩; rw [HE.out]; obtain ⟨q, p⟩ := hx.cells; have hz : w.heap.size < w1.heap.size := (by have a1 := hx.lt; simp at a1; omega)))
  go_loop [3, 4] (fun t k => LetRel s t k) (fun _ k => letM k)
  case atStart => exact ⟨s, ByteArray.empty, Nat.le_refl _, rfl, rfl, by simp, by simp⟩
  case round =>
    obtain ⟨u, t, hu, rfl, rfl, hts, ht⟩ := hrel
    have HT := Lib.hid ht; clear ht
    by_cases hu0 : u = 0
    · subst hu0
      have hz : ¬ ((0 : Int)) < (((0 : Nat) : Int)) := by decide
      have hls := let_done HT.out
      have HLS := Lib.hid hls; clear hls
      have hsz : (Lib.itoa (n : Int)) = Lib.decDigits n := by unfold Lib.itoa; rw [if_neg (by omega)]; simp
      have HSZ := Lib.hid hsz; clear hsz
      have hx0 : Ext w w1 := ((Ext.refl w).alloc _).trans hx
      go_wp2_with fail
      refine (Tryd.strconv_Itoa (n : Int) (by omega) (by omega) _ (HTAB.out _ hx0)).mono ?_
      rintro e w2 ⟨rfl, k9, os, rfl⟩
      have hx9 : Ext w1 (Go.Sort.grow (w1.drewN k9) os) := Lib.below_grow _ _ (Nat.le_refl _) k9 os
      rw [HSZ.out]
      have hlen : (⟨(Lib.decDigits n).toArray⟩ : ByteArray).size ≤ 100 := by
        have h21 := Lib.itoa_length_le (n : Int) (by omega) (by omega)
        rw [HSZ.out] at h21
        show (Lib.decDigits n).toArray.size ≤ 100
        simp; omega
      generalize Go.Sort.grow (w1.drewN k9) os = w3 at hx9 ⊢
      go_wp2
      go_ret
      exact ⟨congrArg (fun z => Ending.returned (.string z)) (by rw [HLS.out]; exact ba_append _ _), hx0.trans hx9⟩
    · obtain ⟨v, rfl⟩ : ∃ v, u = v + 1 := ⟨u - 1, by omega⟩
      have hz : (0 : Int) < (((v + 1 : Nat)) : Int) := by omega
      have hc : (((v + 1 : Nat)) : Int) - 1 = (v : Int) := by omega
      have hm := Int.emod_nonneg (v : Int) (show (26 : Int) ≠ 0 by omega)
      have hm2 := Int.emod_lt_of_pos (v : Int) (show (0 : Int) < 26 by omega)
      have hal := enc_list (v % 26) (Nat.mod_lt v (by omega))
      rw [Int.natCast_emod] at hal
      have hst := let_step (n := s) hu0 HT.out (x := Utf8.encode (97 + (v : Int) % ((26 : Nat) : Int))) (by rw [Nat.add_sub_cancel]; exact hal)
      have hsz := let_size hu0 hu hts (x := Utf8.encode (97 + (v : Int) % ((26 : Nat) : Int))) (by rw [Nat.add_sub_cancel]; exact hal)
      have hx1 : (Utf8.encode (97 + (v : Int) % 26)).size + t.size ≤ 9223372036854775807 := by
        have e : (Utf8.encode (97 + (v : Int) % ((26 : Nat) : Int))).size = 1 := size_one hal
        have e2 : (Utf8.encode (97 + (v : Int) % 26)).size = 1 := e
        rw [e2]; omega
      have HST := Lib.hid hst
      have HSZ := Lib.hid hsz
      clear hst hsz hal
      go_wp2
      exact ⟨⟨v / 26, _, by omega, by simp, rfl, by simpa using HSZ.out, by simpa using HST.out⟩, by simp [letM]; omega⟩
end Go.Proofs.YtbfogchdeijedaaDoor
