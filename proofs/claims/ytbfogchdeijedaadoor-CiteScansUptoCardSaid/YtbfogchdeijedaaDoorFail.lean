/- The contracts of the law's 'fails' and of the reference's generator of citations. -/
import Derived.Test.YtbfogchdeijedaaDoorCp
namespace Go.Proofs.YtbfogchdeijedaaDoor
open Go Go.RowKit

set_option maxRecDepth 100000 in
theorem fails_any (s : ByteArray) (er : Int) (w : World) (hs : s.size ≤ 281474976710656) (hE : Env w) (hp : parseP s.data.toList = (ct0, er)) :
    Calls Tryd.prog 23 #[.string s, .int .i64 er] w (BoolPost true w) := by
  have H := Lib.hid (show ∀ W, Ext w W → Calls Tryd.prog 12 #[.string s] W (fun e W' => e = .returned (.tuple #[.agg #[.int .i64 0, .int .i64 0, .int .i64 0, .int .i64 0], .int .i64 er]) ∧ Ext W W') from fun W hW => by
    have := cparse_any s W hs (hE.ext hW); rw [hp] at this; exact this)
  clear hp hE
  go_enter Tryd.func23, Tryd.ntmps23
  go_wp2_with (first | (go_at_call 12; refine (H.out _ (Ext.refl _)).mono ?_; rintro e w1 ⟨rfl, hx⟩))
  go_ret
  exact ⟨rfl, hx.alloc _⟩
/-- rollbookref01.Around. -/
def arnd (n m : Int) : Int := (if n < 0 then -(n + 1) else n) % m
theorem arnd_in (n m : Int) (h : 1 ≤ m) : 0 ≤ arnd n m ∧ arnd n m < m :=
  ⟨Int.emod_nonneg _ (by omega), Int.emod_lt_of_pos _ (by omega)⟩
theorem arnd_neg {n m : Int} (h : n < 0) : -((n + 1).tmod m) = arnd n m := by
  unfold arnd
  rw [if_pos h, ← Int.neg_tmod, Int.tmod_eq_emod_of_nonneg (by omega)]
theorem arnd_pos {n m : Int} (h : ¬ n < 0) : n % m = arnd n m := by unfold arnd; rw [if_neg h]
theorem around_fn (n m : Int) (w : World) (h1 : -9223372036854775808 ≤ n) (h2 : n ≤ 9223372036854775807) (h3 : 1 ≤ m) (h4 : m ≤ 1000000000) :
    Calls Tryd.prog 8 #[.int .i64 n, .int .i64 m] w fun e w' => e = .returned (.int .i64 (arnd n m)) ∧ w = w' := by
  by_cases h : n < 0
  · have hb := neg_tmod_in n m h h3
    have HB := Lib.hid hb; clear hb
    have HE := Lib.hid (arnd_neg (m := m) h)
    go_enter Tryd.func8, Tryd.ntmps8
    go_wp2
    go_ret
    exact ⟨ret_int (by simpa using HE.out), rfl⟩
  · have HE := Lib.hid (arnd_pos (m := m) h)
    go_enter Tryd.func8, Tryd.ntmps8
    go_wp2
    go_ret
    exact ⟨ret_int (by simpa using HE.out), rfl⟩
/-- rollbookref29.Cite. -/
def citOf (n : Int) : Ct :=
  if arnd n 1000000000 % 7 = 0 then ⟨arnd n 1000000000 % 256, 1 + arnd n 1000000000 % 16384, arnd n 1000000000 / 16384 % 16385, 1 + arnd n 1000000000 % 100⟩
  else ⟨arnd n 1000000000 % 4, 1 + arnd n 1000000000 / 4 % 6, arnd n 1000000000 / 24 % 3, 1 + arnd n 1000000000 / 72 % 12⟩
theorem citOf_ok (n : Int) : citB (citOf n) = true := by
  obtain ⟨h1, h2⟩ := arnd_in n 1000000000 (by omega)
  unfold citOf
  split <;> (apply citB_yes <;> simp only [labB] <;> (try simp only [Bool.and_eq_true, decide_eq_true_eq]) <;> omega)
def CitePost (n : Int) (w : World) (e : Ending) (w' : World) : Prop := e = .returned (citOf n).val ∧ Ext w w'
set_option maxHeartbeats 2000000 in
set_option maxRecDepth 100000 in
theorem cite_any (n : Int) (w : World) (h1 : -9223372036854775808 ≤ n) (h2 : n ≤ 9223372036854775807) : Calls Tryd.prog 7 #[.int .i64 n] w (CitePost n w) := by
  have HA := Lib.hid (fun W => around_fn n 1000000000 W h1 h2 (by omega) (by omega))
  have hr := arnd_in n 1000000000 (by omega)
  have hr0 := hr.1
  have hr1 := hr.2
  have HC := Lib.hid (show citOf n = if arnd n 1000000000 % 7 = 0 then ⟨arnd n 1000000000 % 256, 1 + arnd n 1000000000 % 16384, arnd n 1000000000 / 16384 % 16385, 1 + arnd n 1000000000 % 100⟩
    else ⟨arnd n 1000000000 % 4, 1 + arnd n 1000000000 / 4 % 6, arnd n 1000000000 / 24 % 3, 1 + arnd n 1000000000 / 72 % 12⟩ from rfl)
  generalize arnd n 1000000000 = r at HA hr0 hr1 HC
  clear h1 h2 hr
  by_cases h7 : r % 7 = 0
  · have hb7 : (r % 7 == 0) = true := by simpa using h7
    have HF := Lib.hid (show citOf n = ⟨r % 256, 1 + r % 16384, r / 16384 % 16385, 1 + r % 100⟩ by rw [HC.out, if_pos h7])
    clear h7
    go_enter Tryd.func7, Tryd.ntmps7
    go_wp2_with (first | (go_at_call 8; refine (HA.out _).mono ?_; rintro e w1 ⟨rfl, rfl⟩))
    refine bodyPost_ret (v := .agg #[.int .i64 (r % 256), .int .i64 (1 + r % 16384), .int .i64 (r / 16384 % 16385), .int .i64 (1 + r % 100)]) (by simp [results, Tryd.results7, go_sem]) rfl ?_
    exact ⟨by rw [HF.out]; rfl, by repeat (first | exact Ext.refl _ | refine Ext.alloc ?_ _)⟩
  · have hb7 : (r % 7 == 0) = false := by simpa using h7
    have HF := Lib.hid (show citOf n = ⟨r % 4, 1 + r / 4 % 6, r / 24 % 3, 1 + r / 72 % 12⟩ by rw [HC.out, if_neg h7])
    clear h7
    go_enter Tryd.func7, Tryd.ntmps7
    go_wp2_with (first | (go_at_call 8; refine (HA.out _).mono ?_; rintro e w1 ⟨rfl, rfl⟩))
    refine bodyPost_ret (v := .agg #[.int .i64 (r % 4), .int .i64 (1 + r / 4 % 6), .int .i64 (r / 24 % 3), .int .i64 (1 + r / 72 % 12)]) (by simp [results, Tryd.results7, go_sem]) rfl ?_
    exact ⟨by rw [HF.out]; rfl, by repeat (first | exact Ext.refl _ | refine Ext.alloc ?_ _)⟩
end Go.Proofs.YtbfogchdeijedaaDoor
