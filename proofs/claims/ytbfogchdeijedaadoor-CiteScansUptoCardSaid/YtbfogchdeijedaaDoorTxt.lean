/- The contract of cite.Text. -/
import Derived.Test.YtbfogchdeijedaaDoorRLab
import Derived.Test.YtbfogchdeijedaaDoorRValid
import Derived.Test.YtbfogchdeijedaaDoorPlainC
import Derived.Deep.RegionHeld3
namespace Go.Proofs.YtbfogchdeijedaaDoor
open Go Go.RowKit

def StrPost (s : List UInt8) (w : World) (e : Ending) (w' : World) : Prop := e = .returned (.string ⟨s.toArray⟩) ∧ Ext w w'
theorem itoa_nat (n : Nat) : Lib.itoa (n : Int) = Lib.decDigits n := by unfold Lib.itoa; rw [if_neg (by omega)]; simp
theorem itoa_any (n : Nat) (w : World) (hn : n ≤ 100000) (htab : Tab w) : Calls Tryd.prog 19 #[.int .i64 n] w (StrPost (Lib.decDigits n) w) := by
  refine (Tryd.strconv_Itoa (n : Int) (by omega) (by omega) w (htab w (Ext.refl w))).mono ?_
  rintro e w2 ⟨rfl, k9, os, rfl⟩
  exact ⟨by rw [itoa_nat], Lib.below_grow _ _ (Nat.le_refl _) k9 os⟩
theorem dec_len (n : Nat) (hn : n ≤ 100000) : (⟨(Lib.decDigits n).toArray⟩ : ByteArray).size ≤ 100 := by
  have h21 := Lib.itoa_length_le (n : Int) (by omega) (by omega)
  rw [itoa_nat] at h21
  show (Lib.decDigits n).toArray.size ≤ 100
  simp; omega
theorem lets_size (s : Nat) (hs : s ≤ 16384) : (lets s).length ≤ 4 := lets_len 4 s (by omega)
theorem lab_len (n s : Nat) (hn : n ≤ 100000) (hs : s ≤ 16384) : (⟨(Lib.decDigits n ++ lets s).toArray⟩ : ByteArray).size ≤ 200 := by
  have h1 := dec_len n hn
  have h2 := lets_size s hs
  have h3 : (Lib.decDigits n).length ≤ 100 := h1
  show (Lib.decDigits n ++ lets s).toArray.size ≤ 200
  simp; omega
theorem text_bytes (a b d : List UInt8) : (⟨a.toArray⟩ : ByteArray) ++ ⟨#[47]⟩ ++ ⟨b.toArray⟩ ++ ⟨#[47]⟩ ++ ⟨d.toArray⟩ = ⟨(a ++ (47 :: (b ++ (47 :: d)))).toArray⟩ := by
  rw [show (⟨#[47]⟩ : ByteArray) = ⟨[47].toArray⟩ from rfl]
  simp only [ba_append]
  simp
theorem ext_cells {w w1 : World} (hx : Ext w w1) {b : Nat} (hb : b < w.heap.size) {v0 v1 v2 v3 : Value} (h : w.cell? ⟨b, 0, none⟩ = some v0 ∧ w.cell? ⟨b, 1, none⟩ = some v1 ∧ w.cell? ⟨b, 2, none⟩ = some v2 ∧ w.cell? ⟨b, 3, none⟩ = some v3) :
    w1.cell? ⟨b, 0, none⟩ = some v0 ∧ w1.cell? ⟨b, 1, none⟩ = some v1 ∧ w1.cell? ⟨b, 2, none⟩ = some v2 ∧ w1.cell? ⟨b, 3, none⟩ = some v3 := by
  obtain ⟨q, _⟩ := hx.cells
  simpa [q _ _ hb] using h

set_option maxRecDepth 100000 in
theorem ctext_any (c : Ct) (w : World) (htab : Tab w) : Calls Tryd.prog 9 #[c.val] w (StrPost (textP c) w) := by
  cases hc : citB c with
  | false =>
    have ht : textP c = [] := by unfold textP; rw [hc]; rfl
    have HT := Lib.hid ht
    have HC := Lib.hid hc
    clear ht hc htab
    unfold Ct.val
    go_enter Tryd.func9, Tryd.ntmps9
    go_wp2_with (first | (go_at_call 18; refine (valid_any c _).mono ?_; rintro e w1 ⟨rfl, hx⟩; rw [HC.out]))
    go_ret
    exact ⟨congrArg (fun z => Ending.returned (.string z)) (by rw [HT.out]), ((Ext.refl _).alloc _).trans hx⟩
  | true =>
    obtain ⟨h1, h2, h3, h4, h5, h6, h7, h8⟩ := citB_cases hc
    obtain ⟨br, nu, su, li⟩ := c
    obtain ⟨br, rfl⟩ : ∃ k : Nat, br = k := ⟨br.toNat, by simp at h1; omega⟩
    obtain ⟨nu, rfl⟩ : ∃ k : Nat, nu = k := ⟨nu.toNat, by simp at h5; omega⟩
    obtain ⟨su, rfl⟩ : ∃ k : Nat, su = k := ⟨su.toNat, by simp at h7; omega⟩
    obtain ⟨li, rfl⟩ : ∃ k : Nat, li = k := ⟨li.toNat, by simp at h3; omega⟩
    simp only at h1 h2 h3 h4 h5 h6 h7 h8
    have ht : textP ⟨br, nu, su, li⟩ = Lib.decDigits br ++ (47 :: (Lib.decDigits nu ++ lets su ++ (47 :: Lib.decDigits li))) := by
      unfold textP; rw [if_pos hc]; simp only [Int.toNat_natCast]
    have HT := Lib.hid ht
    have HC := Lib.hid hc
    obtain ⟨S1, e1⟩ : ∃ S : ByteArray, S = ⟨(Lib.decDigits br).toArray⟩ := ⟨_, rfl⟩
    obtain ⟨S2, e2⟩ : ∃ S : ByteArray, S = ⟨(Lib.decDigits nu ++ lets su).toArray⟩ := ⟨_, rfl⟩
    obtain ⟨S3, e3⟩ : ∃ S : ByteArray, S = ⟨(Lib.decDigits li).toArray⟩ := ⟨_, rfl⟩
    have hl1 : S1.size ≤ 100 := e1 ▸ dec_len br (by omega)
    have hl2 : S2.size ≤ 200 := e2 ▸ lab_len nu su (by omega) (by omega)
    have hl3 : S3.size ≤ 100 := e3 ▸ dec_len li (by omega)
    have HI1 := Lib.hid (fun (W : World) (hW : Ext w W) => (show Calls Tryd.prog 19 #[.int .i64 br] W (fun e w' => e = .returned (.string S1) ∧ Ext W w') from e1 ▸ itoa_any br W (by omega) (htab.ext hW)))
    have HI2 := Lib.hid (fun (W : World) (hW : Ext w W) => (show Calls Tryd.prog 14 #[.agg #[.int .i64 nu, .int .i64 su]] W (fun e w' => e = .returned (.string S2) ∧ Ext W w') from e2 ▸ ltext_any nu su W (by omega) (by omega) (htab.ext hW)))
    have HI3 := Lib.hid (fun (W : World) (hW : Ext w W) => (show Calls Tryd.prog 19 #[.int .i64 li] W (fun e w' => e = .returned (.string S3) ∧ Ext W w') from e3 ▸ itoa_any li W (by omega) (htab.ext hW)))
    have HE := Lib.hid (show S1 ++ ⟨#[47]⟩ ++ S2 ++ ⟨#[47]⟩ ++ S3 = ⟨(Lib.decDigits br ++ (47 :: (Lib.decDigits nu ++ lets su ++ (47 :: Lib.decDigits li)))).toArray⟩ by rw [e1, e2, e3]; exact text_bytes _ _ _)
    clear ht hc htab e1 e2 e3
    unfold Ct.val
    go_enter Tryd.func9, Tryd.ntmps9
    go_wp2_with (first | (go_at_call 18; refine (valid_any ⟨br, nu, su, li⟩ _).mono ?_; rintro e w1 ⟨rfl, hx⟩; rw [HC.out]; obtain ⟨q, p⟩ := hx.cells; have hz : w.heap.size < w1.heap.size := (by have a1 := hx.lt; simp at a1; omega)))
    have hx0 : Ext w w1 := ((Ext.refl w).alloc _).trans hx
    have hx0 := hx0.drew
    have hs1 : ¬ 9223372036854775807 < S1.size + 1 := by omega
    have hs2 : ¬ 9223372036854775807 < S1.size + 1 + S2.size := by omega
    have hs3 : ¬ 9223372036854775807 < S1.size + 1 + S2.size + 1 := by omega
    have hs4 : ¬ 9223372036854775807 < S1.size + 1 + S2.size + 1 + S3.size := by omega
    have c0 := ext_cells hx (b := w.heap.size) (by simp) (v0 := .int .i64 br) (v1 := .int .i64 nu) (v2 := .int .i64 su) (v3 := .int .i64 li) (by go_simp)
    go_region_held3 (fun W => W.cell? ⟨w.heap.size, 0, none⟩ = some (.int .i64 br) ∧ W.cell? ⟨w.heap.size, 1, none⟩ = some (.int .i64 nu) ∧ W.cell? ⟨w.heap.size, 2, none⟩ = some (.int .i64 su) ∧ W.cell? ⟨w.heap.size, 3, none⟩ = some (.int .i64 li))
      (first | exact c3 | exact c2 | exact c1 | go_keep)
      (first
        | (go_at_call 19; refine (HI1.out _ ?_).mono ?_; exact hx0; rintro e w2 ⟨rfl, hx2⟩; have c1 := ext_cells hx2 (b := w.heap.size) hz c0; have hz2 : w.heap.size < w2.heap.size := Nat.lt_of_lt_of_le hz hx2.lt)
        | (go_at_call 14; refine (HI2.out _ ?_).mono ?_; exact hx0.trans hx2; rintro e w3 ⟨rfl, hx3⟩; have c2 := ext_cells hx3 (b := w.heap.size) hz2 c1; have hz3 : w.heap.size < w3.heap.size := Nat.lt_of_lt_of_le hz2 hx3.lt)
        | (go_at_call 19; refine (HI3.out _ ?_).mono ?_; exact (hx0.trans hx2).trans hx3; rintro e w4 ⟨rfl, hx4⟩; have c3 := ext_cells hx4 (b := w.heap.size) hz3 c2))
    go_wp2
    go_ret
    exact ⟨congrArg (fun z => Ending.returned (.string z)) (by rw [HT.out]; exact HE.out), ((hx0.trans hx2).trans hx3).trans hx4⟩
end Go.Proofs.YtbfogchdeijedaaDoor
