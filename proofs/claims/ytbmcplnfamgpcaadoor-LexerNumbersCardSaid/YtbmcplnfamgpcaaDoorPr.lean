/- The contracts of date.Print and of its closure. -/
import Derived.Test.YtbmcplnfamgpcaaDoorOf
import Derived.Test.YtbmcplnfamgpcaaDoorPd
import Derived.Deep.RegionHeld3
import Derived.Lib.ItoaLen
import Derived.Lib.AppendIntMem
namespace Go.Proofs.YtbmcplnfamgpcaaDoor
open Go Go.RowKit

def Tab (w : World) : Prop := ∀ W, Ext w W → Lib.TabIs Tryd.prog W "internal/strconv.uint64pow10" .u64 Lib.pow10Tab
theorem Tab.ext {w w' : World} (h : Tab w) (hx : Ext w w') : Tab w' := fun W hW => h W (hx.trans hW)
theorem itoa_nat (n : Nat) : Lib.itoa (n : Int) = Lib.decDigits n := by unfold Lib.itoa; rw [if_neg (by omega)]; simp
theorem itoa_any (n : Nat) (w : World) (hn : n ≤ 100000) (htab : Tab w) : Calls Tryd.prog 42 #[.int .i64 n] w (StrPost (Lib.decDigits n) w) := by
  refine (Tryd.strconv_Itoa (n : Int) (by omega) (by omega) w (htab w (Ext.refl w))).mono ?_
  rintro e w2 ⟨rfl, k9, os, rfl⟩
  exact ⟨by rw [itoa_nat], Lib.below_grow _ _ (Nat.le_refl _) k9 os⟩
theorem repeat_any (c : Nat) (w : World) (hc : c ≤ 100) : Calls Tryd.prog 43 #[.string ⟨#[48]⟩, .int .i64 c] w (StrPost (Lib.repeatL [48] c) w) := by
  refine (Tryd.strings_Repeat ⟨#[48]⟩ c w (by omega) ?_).mono ?_
  · show 1 * c ≤ _; omega
  · rintro e w2 ⟨rfl, hx⟩
    exact ⟨rfl, hx⟩
set_option maxRecDepth 100000 in
theorem pad_any (n k : Nat) (w : World) (hk : k ≤ 100) (hn : n ≤ 100000) (hl : (Lib.decDigits n).length ≤ k) (htab : Tab w) : Calls Tryd.prog 41 #[.int .i64 n, .int .i64 k] w (StrPost (padL n k) w) := by
  obtain ⟨S, hS⟩ : ∃ S : ByteArray, S = ⟨(Lib.decDigits n).toArray⟩ := ⟨_, rfl⟩
  have hSs : S.size = (Lib.decDigits n).length := by rw [← list_size, hS]
  obtain ⟨m, hm⟩ : ∃ m, m = k - (Lib.decDigits n).length := ⟨_, rfl⟩
  have e1 : (k : Int) - (S.size : Int) = (m : Int) := by omega
  obtain ⟨R, hR⟩ : ∃ R : ByteArray, R = ⟨(Lib.repeatL [48] m).toArray⟩ := ⟨_, rfl⟩
  have hRs : R.size = m := by rw [← list_size, hR]; simp [Lib.repeatL_length]
  have H1 := Lib.hid (show Calls Tryd.prog 42 #[.int .i64 n] w (fun e w' => e = .returned (.string S) ∧ Ext w w') from hS ▸ itoa_any n w hn htab)
  have H2 := Lib.hid (fun X => (show Calls Tryd.prog 43 #[.string ⟨#[48]⟩, .int .i64 m] X (fun e X' => e = .returned (.string R) ∧ Ext X X') from hR ▸ repeat_any m X (by omega)))
  have HF := Lib.hid (show R ++ S = ⟨(padL n k).toArray⟩ by
    apply WideShapes.bytes_inj
    rw [app_list, hR, hS]; unfold padL; rw [hm])
  have hq : ¬ 9223372036854775807 < R.size + S.size := by omega
  have hS2 : (S.size : Int) ≤ 100 := by omega
  clear hS hR hSs hRs hm htab hl
  go_enter Tryd.func41, Tryd.ntmps41
  go_wp2_with (first | (go_at_call 42; refine H1.out.mono ?_; rintro e w1 ⟨rfl, hx1⟩) | (go_at_call 43; refine (H2.out _).mono ?_; rintro e w2 ⟨rfl, hx2⟩))
  go_ret
  exact ⟨congrArg (fun z => Ending.returned (.string z)) HF.out, hx1.trans hx2⟩
/-- A date in a block of its own. -/
structure DBox (W : World) (b : Nat) (y m d : Int) : Prop where
  lt : b < W.heap.size
  c0 : W.cell? ⟨b, 0, none⟩ = some (.int .i64 y)
  c1 : W.cell? ⟨b, 1, none⟩ = some (.int .i64 m)
  c2 : W.cell? ⟨b, 2, none⟩ = some (.int .i64 d)
theorem DBox.ext {W W' : World} {b : Nat} {y m d : Int} (h : DBox W b y m d) (hx : Ext W W') : DBox W' b y m d := by
  obtain ⟨q, _⟩ := hx.cells
  exact ⟨Nat.lt_of_lt_of_le h.lt hx.lt, by rw [q _ _ h.lt]; exact h.c0, by rw [q _ _ h.lt]; exact h.c1, by rw [q _ _ h.lt]; exact h.c2⟩
theorem DBox.new (W : World) (y m d : Int) (t : TypeId) : DBox (W.alloc (.cells #[.int .i64 y, .int .i64 m, .int .i64 d] t)) W.heap.size y m d :=
  ⟨by simp, by go_simp, by go_simp, by go_simp⟩
theorem dec_len2 {n : Nat} (h : n < 100) : (Lib.decDigits n).length ≤ 2 := by
  by_cases h1 : n < 10
  · rw [dec_one h1]; simp
  · rw [dec_more h1, dec_one (by omega)]; simp
theorem dec_len4 {n : Nat} (h : n < 10000) : (Lib.decDigits n).length ≤ 4 := by
  by_cases h1 : n < 100
  · have := dec_len2 h1; omega
  · rw [dec_more (by omega), dec_more (by omega), List.length_append, List.length_append]
    have := dec_len2 (n := n / 10 / 10) (by omega)
    simp; omega
theorem date_bounds {y m d : Nat} (hb : dateB y m d = true) : y ≤ 9999 ∧ m ≤ 12 ∧ d ≤ 31 := by
  simp only [dateB, Bool.and_eq_true, decide_eq_true_eq] at hb
  have := mlen_le y m
  omega
def prL (d : Nat) : List UInt8 := dtx (ofD d).1 (ofD d).2.1 (ofD d).2.2
theorem prL_size {d : Nat} (hd : d ≤ 3652058) : (prL d).length = 10 := by
  obtain ⟨h1, h2, h3⟩ := date_bounds (ofD_ok hd).1
  unfold prL; rw [dtx_list (by omega) (by omega) (by omega)]; rfl
set_option maxHeartbeats 4000000 in
set_option maxRecDepth 100000 in
theorem print_any (n : Nat) (w : World) (hn : n ≤ 3652058) (htab : Tab w) : Calls Tryd.prog 25 #[.int .i64 n] w (StrPost (prL n) w) := by
  have H40 := Lib.hid (fun X => of_any n X hn)
  obtain ⟨b1, b2, b3⟩ := date_bounds (ofD_ok hn).1
  obtain ⟨y, hy⟩ : ∃ y, y = (ofD n).1 := ⟨_, rfl⟩
  obtain ⟨m, hm⟩ : ∃ y, y = (ofD n).2.1 := ⟨_, rfl⟩
  obtain ⟨d, hd⟩ : ∃ y, y = (ofD n).2.2 := ⟨_, rfl⟩
  unfold OfPost at H40
  rw [← hy, ← hm, ← hd] at H40
  rw [← hy] at b1
  rw [← hm] at b2
  rw [← hd] at b3
  have hpr : prL n = dtx y m d := by unfold prL; rw [hy, hm, hd]
  have z1 : (padL y 4).length = 4 := by rw [pad4 (by omega)]; rfl
  have z2 : (padL m 2).length = 2 := by rw [pad2 (by omega)]; rfl
  have z3 : (padL d 2).length = 2 := by rw [pad2 (by omega)]; rfl
  obtain ⟨Y, hY⟩ : ∃ S : ByteArray, S = ⟨(padL y 4).toArray⟩ := ⟨_, rfl⟩
  obtain ⟨M, hM⟩ : ∃ S : ByteArray, S = ⟨(padL m 2).toArray⟩ := ⟨_, rfl⟩
  obtain ⟨D, hD⟩ : ∃ S : ByteArray, S = ⟨(padL d 2).toArray⟩ := ⟨_, rfl⟩
  have s1 : Y.size = 4 := by rw [← list_size, hY]; exact z1
  have s2 : M.size = 2 := by rw [← list_size, hM]; exact z2
  have s3 : D.size = 2 := by rw [← list_size, hD]; exact z3
  have HY := Lib.hid (fun X (hX : Ext w X) => (show Calls Tryd.prog 41 #[.int .i64 y, .int .i64 4] X (fun e X' => e = .returned (.string Y) ∧ Ext X X') from hY ▸ pad_any y 4 X (by omega) (by omega) (dec_len4 (by omega)) (htab.ext hX)))
  have HM := Lib.hid (fun X (hX : Ext w X) => (show Calls Tryd.prog 41 #[.int .i64 m, .int .i64 2] X (fun e X' => e = .returned (.string M) ∧ Ext X X') from hM ▸ pad_any m 2 X (by omega) (by omega) (dec_len2 (by omega)) (htab.ext hX)))
  have HD := Lib.hid (fun X (hX : Ext w X) => (show Calls Tryd.prog 41 #[.int .i64 d, .int .i64 2] X (fun e X' => e = .returned (.string D) ∧ Ext X X') from hD ▸ pad_any d 2 X (by omega) (by omega) (dec_len2 (by omega)) (htab.ext hX)))
  have HF := Lib.hid (show Y ++ ⟨#[45]⟩ ++ M ++ ⟨#[45]⟩ ++ D = ⟨(prL n).toArray⟩ by
    apply WideShapes.bytes_inj
    rw [app_list, app_list, app_list, app_list, hY, hM, hD, hpr]; unfold dtx; simp)
  have q1 : ¬ 9223372036854775807 < Y.size + 1 := by omega
  have q2 : ¬ 9223372036854775807 < Y.size + 1 + M.size := by omega
  have q3 : ¬ 9223372036854775807 < Y.size + 1 + M.size + 1 := by omega
  have q4 : ¬ 9223372036854775807 < Y.size + 1 + M.size + 1 + D.size := by omega
  clear hY hM hD hy hm hd hpr s1 s2 s3 z1 z2 z3 htab
  go_enter Tryd.func25, Tryd.ntmps25
  go_upto_region 5 with (first | (go_at_call 40; refine (H40.out _).mono ?_; rintro e w1 ⟨rfl, hx1⟩))
  have hbx := DBox.new w1 y m d 54
  have HX1 := Lib.hid (hx1.alloc (.cells #[.int .i64 y, .int .i64 m, .int .i64 d] 54))
  clear hx1
  generalize w1.alloc (.cells #[.int .i64 y, .int .i64 m, .int .i64 d] 54) = w2 at *
  generalize w1.heap.size = b at *
  have HQ := Lib.hid (fun W (hW : Ext w2 W) => (show W.cell? ⟨b, 0, none⟩ = some (.int .i64 y) ∧ W.cell? ⟨b, 1, none⟩ = some (.int .i64 m) ∧ W.cell? ⟨b, 2, none⟩ = some (.int .i64 d) from ⟨(hbx.ext hW).c0, (hbx.ext hW).c1, (hbx.ext hW).c2⟩))
  obtain ⟨k0, k1, k2⟩ := HQ.out w2 (Ext.refl _)
  have hcur : Ext w2 w2.drew := (Ext.refl _).drew
  clear hbx
  go_region_held3 (fun W => W.cell? ⟨b, 0, none⟩ = some (.int .i64 y) ∧ W.cell? ⟨b, 1, none⟩ = some (.int .i64 m) ∧ W.cell? ⟨b, 2, none⟩ = some (.int .i64 d)) (first | exact HQ.out _ hcur | go_keep)
    (first
      | (go_at_call_of 41 (Value.int IntKind.i64 (y : Int)); refine (HY.out _ (HX1.out.trans hcur)).mono ?_; rintro e wn ⟨rfl, hx⟩; have hcur := hcur.trans hx; clear hx)
      | (go_at_call_of 41 (Value.int IntKind.i64 (m : Int)); refine (HM.out _ (HX1.out.trans hcur)).mono ?_; rintro e wn ⟨rfl, hx⟩; have hcur := hcur.trans hx; clear hx)
      | (go_at_call_of 41 (Value.int IntKind.i64 (d : Int)); refine (HD.out _ (HX1.out.trans hcur)).mono ?_; rintro e wn ⟨rfl, hx⟩; have hcur := hcur.trans hx; clear hx))
  go_wp2
  go_ret
  exact ⟨congrArg (fun z => Ending.returned (.string z)) HF.out, HX1.out.trans hcur⟩
end Go.Proofs.YtbmcplnfamgpcaaDoor
