/- The production's readers: within, token, name, opens, closes, levelOf, arguments. -/
import Derived.Test.YtnpenepdechkjaaGreatDoorMc
import Derived.Test.YtnpenepdechkjaaGreatDoorMb
import Derived.OrdersHeld
import Derived.RegionTactic
import Derived.Deep.RegionLaw
import Derived.Deep.DeepCutAuto
namespace Go.Proofs.YtnpenepdechkjaaGreatDoor
open Go Go.RowKit

theorem fieldTx (x0 x1 x3 : Value) (s : ByteArray) (w : World) : (Instr.field 46 (.agg #[x0, x1, .string s, x3]) 2).run Tryz.prog w = .ok (.string s) w := by simp [Instr.field, go_sem, asAgg]
theorem pad_list (x : List UInt8) : ((⟨#[32]⟩ : ByteArray) ++ bs x ++ ⟨#[32]⟩).data.toList = 32 :: (x ++ [32]) := by
  rw [ByteArray.data_append, ByteArray.data_append]; simp
/-- A list of words, of which none is empty or holds a blank. -/
def WL (ws : List (List UInt8)) : Prop := ∀ w ∈ ws, (32 : UInt8) ∉ w
theorem pwithin_any (L T : ByteArray) (ws : List (List UInt8)) (x : List UInt8) (hL : L = bs (Jw ws)) (hL3 : (Jw ws).length ≤ 1000) (hT : T = bs x) (hx : (32 : UInt8) ∉ x) (hxs : x.length ≤ 100000) (hws : WL ws) (v : Bool) (hv : v = decide (x ≠ [] ∧ x ∈ ws)) (W : World) (hm : ∃ m : Int, W.cell? ⟨0, 0, none⟩ = some (.int .i64 m)) :
    Calls Tryz.prog 118 #[.string L, .string T] W (fun e W' => e = .returned (.bool v) ∧ Ext W W') := by
  obtain ⟨m, hm⟩ := hm
  have hL2 : L.size ≤ 1000 := by rw [hL]; simpa [ByteArray.size] using hL3
  by_cases h0 : x = []
  · have hb : (T.toList == ([] : List UInt8)) = true := by rw [hT, bs_list, h0]; rfl
    have hv' : v = false := by rw [hv, h0]; simp
    subst hv'
    have hTe : T = ⟨#[]⟩ := by rw [hT, h0]
    subst hTe
    clear hT hx h0 hv hL
    go_enter Tryz.func118, Tryz.ntmps118
    go_wp2
    go_ret
    exact ⟨rfl, Ext.refl _⟩
  · have hb : (T.toList == ([] : List UInt8)) = false := by rw [hT, bs_list]; simpa using h0
    obtain ⟨U, hU⟩ : ∃ U, U = (⟨#[32]⟩ : ByteArray) ++ T ++ ⟨#[32]⟩ := ⟨_, rfl⟩
    have hsz : T.size = x.length := by rw [hT]; simp [ByteArray.size]
    have HC := Lib.hid (fun X (hX : X.cell? ⟨0, 0, none⟩ = some (.int .i64 m)) => (show Calls Tryz.prog 156 #[.string L, .string ((⟨#[32]⟩ : ByteArray) ++ T ++ ⟨#[32]⟩)] X (fun e X' => e = .returned (.bool v) ∧ X' = X) from by
      rw [← hU]
      have h1 := Tryz.strings_Contains L U m X (by omega) hX
      have h2 : Lib.contains L.data.toList U.data.toList = v := by
        rw [hU, hT, pad_list, hL]
        have : (bs (Jw ws)).data.toList = Jw ws := by simp
        rw [this, contains_J x hx h0 ws hws, hv]
        simp [h0]
      rw [h2] at h1; exact h1))
    have h1 : ¬ 9223372036854775807 < 1 + T.size := by omega
    have h2 : ¬ 9223372036854775807 < 1 + T.size + 1 := by omega
    have HU := Lib.hid hU
    clear hT hx hU hL hv h0
    go_enter Tryz.func118, Tryz.ntmps118
    go_wp2_with (first | (go_at_call 156; refine (HC.out _ hm).mono ?_; rintro e w1 ⟨rfl, rfl⟩))
    go_ret
    exact ⟨rfl, Ext.refl _⟩
theorem ptok_yes {W : World} {b : Nat} {A : Option Addr} {N c : Nat} {toks : List Tk} {a o : Nat} (h : PB W b A N c toks a o) (k : Int) (hk0 : k ≠ 0) (t : Tk) (ht : hd (toks.drop a) = t) (hk : t.kd = k) :
    Calls Tryz.prog 76 #[.pointer (some ⟨b, 0, none⟩), .int .i64 k] W (fun e W' => e = .returned (.agg #[.int .i64 t.kd, .int .i64 t.at_, .string (bs t.tx), .int .i64 t.nm]) ∧ PB W' b A N c toks (a + 1) o ∧ Mv b W W') := by
  have hgo := h.go (by rw [ht, hk]; exact hk0)
  have HP := Lib.hid h
  obtain ⟨g, off, t', rfl, _, _, h4, _, k0, k1, k2, k3⟩ := h.tk
  rw [ht] at h4
  subst h4
  have hlt := h.lt
  obtain ⟨kd, at_, tx, nm⟩ := t
  simp only at hk k0 k1 k2 k3 ⊢
  subst hk
  obtain ⟨S, hS⟩ : ∃ S, S = bs tx := ⟨_, rfl⟩
  have k2 : W.cell? ⟨g, off + (a * 4 + 2), none⟩ = some (.string S) := by rw [hS]; exact k2
  rw [← hS]
  rw [← Nat.add_assoc] at k1 k2 k3
  have hg : g < W.heap.size := block_lt_of_cell k0
  have HX := Lib.hid ((Ext.refl W).alloc (.cells #[.int .i64 0, .int .i64 0, .string ⟨#[]⟩, .int .i64 0] 46))
  have c0 := (HP.out.ext HX.out).c0
  have c1 := (HP.out.ext HX.out).c1
  have e0 := (HX.out.cells.1 g (off + a * 4) hg).trans k0
  have e1 := (HX.out.cells.1 g (off + a * 4 + 1) hg).trans k1
  have e2 := (HX.out.cells.1 g (off + a * 4 + 2) hg).trans k2
  have e3 := (HX.out.cells.1 g (off + a * 4 + 3) hg).trans k3
  have haI : (a : Int) < (N : Int) := by have := h.at_; omega
  have haJ : (a : Int) ≤ 100000 := by have := h.nb; omega
  clear h ht k0 k1 k2 k3 hS
  go_enter Tryz.func76, Tryz.ntmps76
  go_upto_region 1 with (fail)
  have q := TBox.new W 0 0 0 ⟨#[]⟩ 46
  have hlt1 : b < (W.alloc (.cells #[.int .i64 0, .int .i64 0, .string ⟨#[]⟩, .int .i64 0] 46)).heap.size := (HP.out.ext HX.out).lt
  have f1 := (HP.out.ext HX.out).fz 1
  have hne4 : ¬ b = W.heap.size := by omega
  have hg4 : W.heap.size ≤ W.heap.size := Nat.le_refl _
  have hm0 : ∀ X, Ext W X → Mv b W X := fun X hX => Mv.of_ext hX
  have hg1 : g < (W.alloc (.cells #[.int .i64 0, .int .i64 0, .string ⟨#[]⟩, .int .i64 0] 46)).heap.size := Nat.lt_of_lt_of_le hg HX.out.lt
  generalize W.alloc (.cells #[.int .i64 0, .int .i64 0, .string ⟨#[]⟩, .int .i64 0] 46) = w1 at *
  obtain ⟨g4, hg5⟩ : ∃ g4, g4 = W.heap.size := ⟨_, rfl⟩
  have HG4 := Lib.hid hg5
  rw [← hg5] at q hne4 ⊢
  clear hg4 hm0
  rw [← hg5] at hlt hg
  clear hg5
  go_cut [5] (fun s5 wx => s5 = .pointer (some ⟨w1.heap.size, 0, none⟩) ∧ wx = w1.drew.alloc (.cells #[.int .i64 kd, .int .i64 at_, .string S, .int .i64 nm] 46))
  case first =>
    go_region
    all_goals
      go_wp2
      go_meet
      case rel => exact ⟨rfl, rfl⟩
  case rest =>
    obtain ⟨rfl, hwc⟩ := hcut
    have hx5 : Ext w1 wc := by rw [hwc]; exact (Ext.refl _).drew.alloc _
    have q4 := q.ext hx5
    have q5 : TBox wc w1.heap.size kd at_ S nm := by rw [hwc]; exact TBox.new w1.drew kd at_ nm S 46
    have HP5 := Lib.hid ((HP.out.ext HX.out).ext hx5)
    have HYtnpenepdechkjaaGreatDoor := Lib.hid (HX.out.trans hx5)
    have hne5 : ¬ b = w1.heap.size := by omega
    have hne45 : ¬ g4 = w1.heap.size := by have := q.lt; omega
    clear q hwc hx5 c0 c1 e0 e1 e2 e3 f1 hlt1 hg1 HX
    generalize w1.heap.size = g5 at *
    obtain ⟨_, a0, a1, a2, a3, b0, b1, b2, b3⟩ := q4
    obtain ⟨_, d0, d1, d2, d3, _, _, _, _⟩ := q5
    have c1 := HP5.out.c1
    have f1 := HP5.out.fz 1
    go_wp2
    refine bodyPost_ret (v := .agg #[.int .i64 kd, .int .i64 at_, .string S, .int .i64 nm]) (by simp [results, Tryz.results76, go_sem, *]) rfl ?_
    have hg4 : W.heap.size ≤ g4 := Nat.le_of_eq HG4.out.symm
    have h1 := HP5.out.set1 (a + 1) hgo
    rw [show (((a + 1 : Nat) : Int)) = (a : Int) + 1 by omega] at h1
    exact ⟨rfl, HP.out.setNew (HP.out.setNew (HP.out.setNew (HP.out.setNew h1 (p := ⟨g4, 0, none⟩) hg4 _) (p := ⟨g4, 1, none⟩) hg4 _) (p := ⟨g4, 2, none⟩) hg4 _) (p := ⟨g4, 3, none⟩) hg4 _,
      (((((Mv.of_ext HYtnpenepdechkjaaGreatDoor.out).trans (Mv.set _)).setNew (p := ⟨g4, 0, none⟩) hg4 _).setNew (p := ⟨g4, 1, none⟩) hg4 _).setNew (p := ⟨g4, 2, none⟩) hg4 _).setNew (p := ⟨g4, 3, none⟩) hg4 _⟩
end Go.Proofs.YtnpenepdechkjaaGreatDoor

/- The production's readers: token that fails, name, opens, closes, levelOf, arguments. -/
namespace Go.Proofs.YtnpenepdechkjaaGreatDoor
open Go Go.RowKit

theorem ptok_no {W : World} {b : Nat} {A : Option Addr} {N c : Nat} {toks : List Tk} {a o : Nat} (h : PB W b A N c toks a o) (k : Int) (hk : (hd (toks.drop a)).kd ≠ k) :
    Calls Tryz.prog 76 #[.pointer (some ⟨b, 0, none⟩), .int .i64 k] W (fun e W' => e = .panicked [{ v := failV (toks.drop a) 20, recovered := false }] ∧ Ext W W') := by
  have HP := Lib.hid h
  obtain ⟨g, off, t, rfl, _, _, h4, _, k0, k1, k2, k3⟩ := h.tk
  have HF := Lib.hid (fun X (hX : Ext W X) => pfail_any (h.ext hX) 20)
  rw [h4] at hk
  have hkb : (t.kd == k) = false := by simpa using hk
  obtain ⟨kd, at_, tx, nm⟩ := t
  simp only at hk hkb k0 k1 k2 k3
  obtain ⟨S, hS⟩ : ∃ S, S = bs tx := ⟨_, rfl⟩
  have k2 : W.cell? ⟨g, off + (a * 4 + 2), none⟩ = some (.string S) := by rw [hS]; exact k2
  rw [← Nat.add_assoc] at k1 k2 k3
  have hg : g < W.heap.size := block_lt_of_cell k0
  have HX := Lib.hid ((Ext.refl W).alloc (.cells #[.int .i64 0, .int .i64 0, .string ⟨#[]⟩, .int .i64 0] 46))
  have c0 := (HP.out.ext HX.out).c0
  have c1 := (HP.out.ext HX.out).c1
  have e0 := (HX.out.cells.1 g (off + a * 4) hg).trans k0
  have e1 := (HX.out.cells.1 g (off + a * 4 + 1) hg).trans k1
  have e2 := (HX.out.cells.1 g (off + a * 4 + 2) hg).trans k2
  have e3 := (HX.out.cells.1 g (off + a * 4 + 3) hg).trans k3
  have haI : (a : Int) < (N : Int) := by have := h.at_; omega
  clear h h4 k0 k1 k2 k3 hS hk
  go_enter Tryz.func76, Tryz.ntmps76
  go_upto_region 1 with (fail)
  have hlt1 : b < (W.alloc (.cells #[.int .i64 0, .int .i64 0, .string ⟨#[]⟩, .int .i64 0] 46)).heap.size := (HP.out.ext HX.out).lt
  have hg1 : g < (W.alloc (.cells #[.int .i64 0, .int .i64 0, .string ⟨#[]⟩, .int .i64 0] 46)).heap.size := Nat.lt_of_lt_of_le hg HX.out.lt
  generalize W.alloc (.cells #[.int .i64 0, .int .i64 0, .string ⟨#[]⟩, .int .i64 0] 46) = w1 at *
  generalize W.heap.size = g4 at *
  go_cut [5] (fun s5 wx => s5 = .pointer (some ⟨w1.heap.size, 0, none⟩) ∧ wx = w1.drew.alloc (.cells #[.int .i64 kd, .int .i64 at_, .string S, .int .i64 nm] 46))
  case first =>
    go_region
    all_goals
      go_wp2
      go_meet
      case rel => exact ⟨rfl, rfl⟩
  case rest =>
    obtain ⟨rfl, hwc⟩ := hcut
    have hx5 : Ext w1 wc := by rw [hwc]; exact (Ext.refl _).drew.alloc _
    have q5 : TBox wc w1.heap.size kd at_ S nm := by rw [hwc]; exact TBox.new w1.drew kd at_ nm S 46
    have HYtnpenepdechkjaaGreatDoor := Lib.hid (HX.out.trans hx5)
    clear hwc hx5 c0 c1 e0 e1 e2 e3 HX
    generalize w1.heap.size = g5 at *
    obtain ⟨_, d0, d1, d2, d3, _, _, _, _⟩ := q5
    go_wp2_with (first | (go_at_call 73; refine (HF.out _ HYtnpenepdechkjaaGreatDoor.out).mono ?_; rintro e w2 ⟨rfl, hx2⟩))
    exact ⟨rfl, rfl, HYtnpenepdechkjaaGreatDoor.out.trans hx2⟩
/-- The list of the reserved words as the program has it. -/
def resC : List (List UInt8) := words ++ ([] :: (units ++ ([] :: (fields ++ ([] :: functions)))))
theorem resC_iff (x : List UInt8) : (x ≠ [] ∧ x ∈ resC) ↔ x ∈ reserved := by
  unfold resC reserved
  simp only [List.mem_append, List.mem_cons]
  constructor
  · rintro ⟨h0, h1⟩
    rcases h1 with h1 | h1 | h1 | h1 | h1 | h1 | h1
    · exact .inl h1
    · exact absurd h1 h0
    · exact .inr (.inl h1)
    · exact absurd h1 h0
    · exact .inr (.inr (.inl h1))
    · exact absurd h1 h0
    · exact .inr (.inr (.inr h1))
  · intro h1
    refine ⟨fun e => ?_, ?_⟩
    · subst e
      rcases h1 with h1 | h1 | h1 | h1 <;> revert h1 <;> decide
    · rcases h1 with h1 | h1 | h1 | h1
      · exact .inl h1
      · exact .inr (.inr (.inl h1))
      · exact .inr (.inr (.inr (.inr (.inl h1))))
      · exact .inr (.inr (.inr (.inr (.inr (.inr h1)))))
theorem wl_res : WL resC := by unfold WL; decide
theorem wl_units : WL units := by unfold WL; decide
theorem wl_fields : WL fields := by unfold WL; decide
theorem wl_functions : WL functions := by unfold WL; decide
theorem jw_res : (Jw resC).length ≤ 1000 := by decide +kernel
theorem jw_units : (Jw units).length ≤ 1000 := by decide +kernel
theorem jw_fields : (Jw fields).length ≤ 1000 := by decide +kernel
theorem jw_functions : (Jw functions).length ≤ 1000 := by decide +kernel
theorem PB.tx32 {W : World} {b : Nat} {A : Option Addr} {N c : Nat} {toks : List Tk} {a o : Nat} (h : PB W b A N c toks a o) : (32 : UInt8) ∉ (hd (toks.drop a)).tx ∧ (hd (toks.drop a)).tx.length ≤ 100000 := ⟨h.wf.no32 (hd_mem h).1, h.sz _ (hd_mem h).1⟩
/-- Is the next word one of a list? -/
theorem pin_any {W : World} {b : Nat} {A : Option Addr} {N c : Nat} {toks : List Tk} {a o : Nat} (h : PB W b A N c toks a o) (T : ByteArray) (hT : T = bs (hd (toks.drop a)).tx) (ws : List (List UInt8)) (hws : WL ws) (v : Bool) (hv : v = decide ((hd (toks.drop a)).tx ≠ [] ∧ (hd (toks.drop a)).tx ∈ ws)) (L : ByteArray) (hL : L = bs (Jw ws)) (hL2 : (Jw ws).length ≤ 1000) :
    Calls Tryz.prog 118 #[.string L, .string T] W (fun e W' => e = .returned (.bool v) ∧ Ext W W') :=
  pwithin_any L T ws _ hL hL2 hT h.tx32.1 h.tx32.2 hws v hv W h.ml
set_option maxRecDepth 100000 in
theorem pname_any {W : World} {b : Nat} {A : Option Addr} {N c : Nat} {toks : List Tk} {a o : Nat} (h : PB W b A N c toks a o) :
    Calls Tryz.prog 75 #[.pointer (some ⟨b, 0, none⟩)] W (GP b A N c toks a o (fun _ x v => v = .string (bs x)) W (nameP (toks.drop a))) := by
  have HP := Lib.hid h
  obtain ⟨t, ht⟩ : ∃ t, hd (toks.drop a) = t := ⟨_, rfl⟩
  obtain ⟨T, hT⟩ : ∃ T, T = bs t.tx := ⟨_, rfl⟩
  have HN := Lib.hid (pnext_any h T (by rw [ht]; exact hT))
  have htl := (hd_mem h).2.2
  unfold nameP tokP
  rw [ht]
  by_cases hr : t.tx ∈ reserved
  · rw [if_pos hr]
    have HW := Lib.hid (fun X (hX : Ext W X) L hL => pin_any (h.ext hX) T (by rw [ht]; exact hT) resC wl_res true (by rw [ht]; exact (decide_eq_true ((resC_iff _).2 hr)).symm) L hL jw_res)
    have HF := Lib.hid (fun X (hX : Ext W X) => pfail_any (h.ext hX) 20)
    clear h ht hT htl hr
    go_enter Tryz.func75, Tryz.ntmps75
    go_wp2_with (first
      | (go_at_call 77; refine (HN.out).mono ?_; rintro e w1 ⟨rfl, hx1⟩)
      | (go_at_call 118; refine (HW.out _ hx1 _ (by kernel_rfl)).mono ?_; rintro e w2 ⟨rfl, hx2⟩)
      | (go_at_call 73; refine (HF.out _ (hx1.trans hx2)).mono ?_; rintro e w3 ⟨rfl, hx3⟩))
    exact ⟨rfl, a, o, rfl, Nat.le_refl _, rfl, HP.out.ext ((hx1.trans hx2).trans hx3), Mv.of_ext ((hx1.trans hx2).trans hx3)⟩
  · rw [if_neg hr]
    have HW := Lib.hid (fun X (hX : Ext W X) L hL => pin_any (h.ext hX) T (by rw [ht]; exact hT) resC wl_res false (by rw [ht]; exact (decide_eq_false (fun h9 => hr ((resC_iff _).1 h9))).symm) L hL jw_res)
    by_cases hk : t.kd = 1
    · rw [if_pos hk]
      have HK := Lib.hid (fun X (hX : Ext W X) => ptok_yes (h.ext hX) 1 (by decide) t ht hk)
      rw [htl, PR.bind_ok]
      have hfd := fieldTx
      clear h ht hT htl hr hk
      go_enter Tryz.func75, Tryz.ntmps75
      go_wp2_with (first
        | (go_at_call 77; refine (HN.out).mono ?_; rintro e w1 ⟨rfl, hx1⟩)
        | (go_at_call 118; refine (HW.out _ hx1 _ (by kernel_rfl)).mono ?_; rintro e w2 ⟨rfl, hx2⟩)
        | (go_at_call 76; refine (HK.out _ (hx1.trans hx2)).mono ?_; rintro e w3 ⟨rfl, hp3, hm3⟩))
      go_ret
      exact ⟨_, a + 1, rfl, rfl, by omega, rfl, hp3, (Mv.of_ext (hx1.trans hx2)).trans hm3⟩
    · rw [if_neg hk]
      have HK := Lib.hid (fun X (hX : Ext W X) => ptok_no (h.ext hX) 1 (by rw [ht]; exact hk))
      rw [PR.bind_bad]
      clear h ht hT htl hr hk
      go_enter Tryz.func75, Tryz.ntmps75
      go_wp2_with (first
        | (go_at_call 77; refine (HN.out).mono ?_; rintro e w1 ⟨rfl, hx1⟩)
        | (go_at_call 118; refine (HW.out _ hx1 _ (by kernel_rfl)).mono ?_; rintro e w2 ⟨rfl, hx2⟩)
        | (go_at_call 76; refine (HK.out _ (hx1.trans hx2)).mono ?_; rintro e w3 ⟨rfl, hx3⟩))
      exact ⟨rfl, a, o, rfl, Nat.le_refl _, rfl, HP.out.ext ((hx1.trans hx2).trans hx3), Mv.of_ext ((hx1.trans hx2).trans hx3)⟩
theorem popens_any {W : World} {b : Nat} {A : Option Addr} {N c : Nat} {toks : List Tk} {a o : Nat} (h : PB W b A N c toks a o) (ho : o ≤ 12) (s : List UInt8) (S : ByteArray) (hS : S = bs s) (hs : s ≠ []) :
    Calls Tryz.prog 127 #[.pointer (some ⟨b, 0, none⟩), .string S] W (GP b A N c toks a (o + 1) (fun _ _ v => v = .tuple #[]) W (opensP s o (toks.drop a))) := by
  have HP := Lib.hid h
  obtain ⟨T, hT⟩ : ∃ T, T = bs (hd (toks.drop a)).tx := ⟨_, rfl⟩
  have HN := Lib.hid (pnext_any h T hT)
  have htl := (hd_mem h).2.2
  have HF := Lib.hid (fun X (hX : Ext W X) er => pfail_any (h.ext hX) er)
  unfold opensP
  by_cases hx : (hd (toks.drop a)).tx = s
  · rw [if_pos hx]
    have hb := bs_eq hT hS hx
    have hgo := h.go (h.txne hx hs)
    have haI : (a : Int) ≤ 100000 := by have := h.nb; have := h.at_; omega
    have hoI : (o : Int) ≤ 12 := by omega
    by_cases h12 : o = 12
    · rw [if_pos h12]
      have h12I : ((o : Int) == 12) = true := by simp [h12]
      clear h hT hS hx hs htl h12
      go_enter Tryz.func127, Tryz.ntmps127
      go_upto_region 2 with (first | (go_at_call 77; refine (HN.out).mono ?_; rintro e w1 ⟨rfl, hx1⟩))
      have c2 := (HP.out.ext hx1).c2
      go_wp2_with (first | (go_at_call 73; refine (HF.out _ hx1 2).mono ?_; rintro e w2 ⟨rfl, hx2⟩))
      exact ⟨rfl, a, o, rfl, Nat.le_refl _, rfl, HP.out.ext (hx1.trans hx2), Mv.of_ext (hx1.trans hx2)⟩
    · rw [if_neg h12, htl]
      have h12I : ((o : Int) == 12) = false := by simpa using (show ¬ (o : Int) = 12 by omega)
      clear h hT hS hx hs htl h12
      go_enter Tryz.func127, Tryz.ntmps127
      go_upto_region 2 with (first | (go_at_call 77; refine (HN.out).mono ?_; rintro e w1 ⟨rfl, hx1⟩))
      have c1 := (HP.out.ext hx1).c1
      have c2 := (HP.out.ext hx1).c2
      have f1 := (HP.out.ext hx1).fz 1
      have f2 := (HP.out.ext hx1).fz 2
      have HX1 := Lib.hid hx1
      clear hx1
      go_wp2
      go_end0
      exact ⟨_, a + 1, rfl, rfl, by omega, rfl, by simpa using ((HP.out.ext HX1.out).set1 (a + 1) hgo).set2 (o + 1), ((Mv.of_ext HX1.out).trans (Mv.set _)).trans (Mv.set _)⟩
  · rw [if_neg hx]
    have hb := bs_ne hT hS hx
    clear h hT hS hx hs htl
    go_enter Tryz.func127, Tryz.ntmps127
    go_wp2_with (first
      | (go_at_call 77; refine (HN.out).mono ?_; rintro e w1 ⟨rfl, hx1⟩)
      | (go_at_call 73; refine (HF.out _ hx1 20).mono ?_; rintro e w2 ⟨rfl, hx2⟩))
    exact ⟨rfl, a, o, rfl, Nat.le_refl _, rfl, HP.out.ext (hx1.trans hx2), Mv.of_ext (hx1.trans hx2)⟩
end Go.Proofs.YtnpenepdechkjaaGreatDoor

/- The production's readers: closes, levelOf, arguments. -/
namespace Go.Proofs.YtnpenepdechkjaaGreatDoor
open Go Go.RowKit

theorem pmust_any {W : World} {b : Nat} {A : Option Addr} {N c : Nat} {toks : List Tk} {a o : Nat} (h : PB W b A N c toks a o) (s : List UInt8) (S : ByteArray) (hS : S = bs s) (hs : s ≠ []) :
    Calls Tryz.prog 74 #[.pointer (some ⟨b, 0, none⟩), .string S] W (GP b A N c toks a o (fun _ _ v => v = .tuple #[]) W (mustP s (toks.drop a))) := by
  unfold mustP
  by_cases hx : (hd (toks.drop a)).tx = s
  · rw [if_pos hx, (hd_mem h).2.2]
    refine (pmust_yes h s S hS hs hx).mono ?_
    rintro e W' ⟨rfl, hp, hm⟩
    exact ⟨_, a + 1, rfl, rfl, by omega, rfl, hp, hm⟩
  · rw [if_neg hx]
    refine (pmust_no h s S hS hx).mono ?_
    rintro e W' ⟨rfl, hm⟩
    exact ⟨a, o, rfl, Nat.le_refl _, rfl, h.ext hm, Mv.of_ext hm⟩
theorem pcloses_any {W : World} {b : Nat} {A : Option Addr} {N c : Nat} {toks : List Tk} {a o : Nat} (h : PB W b A N c toks a (o + 1)) (ho : o ≤ 12) (s : List UInt8) (S : ByteArray) (hS : S = bs s) (hs : s ≠ []) :
    Calls Tryz.prog 159 #[.pointer (some ⟨b, 0, none⟩), .string S] W (GP b A N c toks a o (fun _ _ v => v = .tuple #[]) W (mustP s (toks.drop a))) := by
  have HM := Lib.hid (pmust_any h s S hS hs)
  have hoI : (o : Int) ≤ 12 := by omega
  cases hr : mustP s (toks.drop a) with
  | bad r er =>
    rw [hr] at HM
    clear h hS hs hr
    go_enter Tryz.func159, Tryz.ntmps159
    go_wp2_with (first | (go_at_call 74; refine (HM.out).mono ?_; rintro e w1 ⟨a', o', rfl, ha, hr, hp, hm⟩; have HR := Lib.hid hr; clear hr))
    exact ⟨rfl, a', o', rfl, ha, HR.out, hp, hm⟩
  | ok u r =>
    rw [hr] at HM
    clear h hS hs hr
    go_enter Tryz.func159, Tryz.ntmps159
    go_upto_region 1 with (first | (go_at_call 74; refine (HM.out).mono ?_; rintro e w1 ⟨v, a', rfl, rfl, ha, hr, hp, hm⟩; have HR := Lib.hid hr; clear hr))
    have HP := Lib.hid hp
    have c2 := hp.c2
    have f2 := hp.fz 2
    have hw : IntKind.i64.wrap (((o + 1 : Nat) : Int) - 1) = (o : Int) := by rw [IntWalk.i64_in _ (by omega)]; omega
    rw [show ((o + 1 : Nat) : Int) = (o : Int) + 1 by omega] at c2 hw
    clear hp
    go_wp2
    go_end0
    exact ⟨_, a', rfl, rfl, ha, HR.out, HP.out.set2 o, hm.trans (Mv.set _)⟩
theorem lit_list (l : List UInt8) : (⟨l.toArray⟩ : ByteArray).toList = l := bs_list l
set_option maxRecDepth 100000 in
theorem plevel_any (x : List UInt8) (T : ByteArray) (hT : T = bs x) (W : World) : Calls Tryz.prog 106 #[.string T] W (fun e W' => e = .returned (.int .i64 (lvOf x : Nat)) ∧ Ext W W') := by
  by_cases n0 : x = wOr
  · have hv : lvOf x = 1 := by rw [n0]; decide
    have hTe : T = ⟨#[111, 114]⟩ := by rw [hT, n0]; rfl
    rw [hv]
    subst hTe
    clear hT n0 hv
    go_enter Tryz.func106, Tryz.ntmps106
    go_wp2
    go_ret
    exact ⟨rfl, Ext.refl _⟩
  by_cases n1 : x = wAnd
  · have hv : lvOf x = 2 := by rw [n1]; decide
    have hTe : T = ⟨#[97, 110, 100]⟩ := by rw [hT, n1]; rfl
    rw [hv]
    subst hTe
    clear hT n1 hv n0
    go_enter Tryz.func106, Tryz.ntmps106
    go_wp2
    go_ret
    exact ⟨rfl, Ext.refl _⟩
  by_cases n2 : x = wLt
  · have hv : lvOf x = 4 := by rw [n2]; decide
    have hTe : T = ⟨#[60]⟩ := by rw [hT, n2]; rfl
    rw [hv]
    subst hTe
    clear hT n2 hv n0 n1
    go_enter Tryz.func106, Tryz.ntmps106
    go_wp2
    go_ret
    exact ⟨rfl, Ext.refl _⟩
  by_cases n3 : x = wLe
  · have hv : lvOf x = 4 := by rw [n3]; decide
    have hTe : T = ⟨#[60, 61]⟩ := by rw [hT, n3]; rfl
    rw [hv]
    subst hTe
    clear hT n3 hv n0 n1 n2
    go_enter Tryz.func106, Tryz.ntmps106
    go_wp2
    go_ret
    exact ⟨rfl, Ext.refl _⟩
  by_cases n4 : x = wEq
  · have hv : lvOf x = 4 := by rw [n4]; decide
    have hTe : T = ⟨#[61]⟩ := by rw [hT, n4]; rfl
    rw [hv]
    subst hTe
    clear hT n4 hv n0 n1 n2 n3
    go_enter Tryz.func106, Tryz.ntmps106
    go_wp2
    go_ret
    exact ⟨rfl, Ext.refl _⟩
  by_cases n5 : x = wNe
  · have hv : lvOf x = 4 := by rw [n5]; decide
    have hTe : T = ⟨#[33, 61]⟩ := by rw [hT, n5]; rfl
    rw [hv]
    subst hTe
    clear hT n5 hv n0 n1 n2 n3 n4
    go_enter Tryz.func106, Tryz.ntmps106
    go_wp2
    go_ret
    exact ⟨rfl, Ext.refl _⟩
  by_cases n6 : x = wGt
  · have hv : lvOf x = 4 := by rw [n6]; decide
    have hTe : T = ⟨#[62]⟩ := by rw [hT, n6]; rfl
    rw [hv]
    subst hTe
    clear hT n6 hv n0 n1 n2 n3 n4 n5
    go_enter Tryz.func106, Tryz.ntmps106
    go_wp2
    go_ret
    exact ⟨rfl, Ext.refl _⟩
  by_cases n7 : x = wGe
  · have hv : lvOf x = 4 := by rw [n7]; decide
    have hTe : T = ⟨#[62, 61]⟩ := by rw [hT, n7]; rfl
    rw [hv]
    subst hTe
    clear hT n7 hv n0 n1 n2 n3 n4 n5 n6
    go_enter Tryz.func106, Tryz.ntmps106
    go_wp2
    go_ret
    exact ⟨rfl, Ext.refl _⟩
  by_cases n8 : x = wPlus
  · have hv : lvOf x = 5 := by rw [n8]; decide
    have hTe : T = ⟨#[43]⟩ := by rw [hT, n8]; rfl
    rw [hv]
    subst hTe
    clear hT n8 hv n0 n1 n2 n3 n4 n5 n6 n7
    go_enter Tryz.func106, Tryz.ntmps106
    go_wp2
    go_ret
    exact ⟨rfl, Ext.refl _⟩
  by_cases n9 : x = wMinus
  · have hv : lvOf x = 5 := by rw [n9]; decide
    have hTe : T = ⟨#[45]⟩ := by rw [hT, n9]; rfl
    rw [hv]
    subst hTe
    clear hT n9 hv n0 n1 n2 n3 n4 n5 n6 n7 n8
    go_enter Tryz.func106, Tryz.ntmps106
    go_wp2
    go_ret
    exact ⟨rfl, Ext.refl _⟩
  by_cases n10 : x = wStar
  · have hv : lvOf x = 6 := by rw [n10]; decide
    have hTe : T = ⟨#[42]⟩ := by rw [hT, n10]; rfl
    rw [hv]
    subst hTe
    clear hT n10 hv n0 n1 n2 n3 n4 n5 n6 n7 n8 n9
    go_enter Tryz.func106, Tryz.ntmps106
    go_wp2
    go_ret
    exact ⟨rfl, Ext.refl _⟩
  have hc : x ∉ cmpOps := fun h => by
      simp only [cmpOps, List.mem_cons, List.not_mem_nil, or_false] at h
      rcases h with h | h | h | h | h | h
      · exact n2 h
      · exact n3 h
      · exact n4 h
      · exact n5 h
      · exact n6 h
      · exact n7 h
  have hv : lvOf x = 0 := by
    unfold lvOf
    rw [if_neg n0, if_neg n1, if_neg hc, if_neg (by rintro (h | h); exact n8 h; exact n9 h), if_neg n10]
  have q0 : (T.toList == [111, 114]) = false := by rw [hT, bs_list]; exact beq_eq_false_iff_ne.2 n0
  have q1 : (T.toList == [97, 110, 100]) = false := by rw [hT, bs_list]; exact beq_eq_false_iff_ne.2 n1
  have q2 : (T.toList == [60]) = false := by rw [hT, bs_list]; exact beq_eq_false_iff_ne.2 n2
  have q3 : (T.toList == [60, 61]) = false := by rw [hT, bs_list]; exact beq_eq_false_iff_ne.2 n3
  have q4 : (T.toList == [61]) = false := by rw [hT, bs_list]; exact beq_eq_false_iff_ne.2 n4
  have q5 : (T.toList == [33, 61]) = false := by rw [hT, bs_list]; exact beq_eq_false_iff_ne.2 n5
  have q6 : (T.toList == [62]) = false := by rw [hT, bs_list]; exact beq_eq_false_iff_ne.2 n6
  have q7 : (T.toList == [62, 61]) = false := by rw [hT, bs_list]; exact beq_eq_false_iff_ne.2 n7
  have q8 : (T.toList == [43]) = false := by rw [hT, bs_list]; exact beq_eq_false_iff_ne.2 n8
  have q9 : (T.toList == [45]) = false := by rw [hT, bs_list]; exact beq_eq_false_iff_ne.2 n9
  have q10 : (T.toList == [42]) = false := by rw [hT, bs_list]; exact beq_eq_false_iff_ne.2 n10
  rw [hv]
  clear hT hv hc n0 n1 n2 n3 n4 n5 n6 n7 n8 n9 n10
  go_enter Tryz.func106, Tryz.ntmps106
  go_wp2
  go_ret
  exact ⟨rfl, Ext.refl _⟩
set_option maxRecDepth 100000 in
theorem pargs_any (x : List UInt8) (T : ByteArray) (hT : T = bs x) (W : World) : Calls Tryz.prog 181 #[.string T] W (fun e W' => e = .returned (.int .i64 (argsN x : Nat)) ∧ Ext W W') := by
  by_cases n0 : x = wNext
  · have hv : argsN x = 1 := by rw [n0]; decide
    have hTe : T = ⟨#[110, 101, 120, 116]⟩ := by rw [hT, n0]; rfl
    rw [hv]
    subst hTe
    clear hT n0 hv
    go_enter Tryz.func181, Tryz.ntmps181
    go_wp2
    go_ret
    exact ⟨rfl, Ext.refl _⟩
  by_cases n1 : x = wPrev
  · have hv : argsN x = 1 := by rw [n1]; decide
    have hTe : T = ⟨#[112, 114, 101, 118]⟩ := by rw [hT, n1]; rfl
    rw [hv]
    subst hTe
    clear hT n1 hv n0
    go_enter Tryz.func181, Tryz.ntmps181
    go_wp2
    go_ret
    exact ⟨rfl, Ext.refl _⟩
  have hv : argsN x = 2 := by unfold argsN; rw [if_neg (by rintro (h | h); exact n0 h; exact n1 h)]
  have q0 : (T.toList == [110, 101, 120, 116]) = false := by rw [hT, bs_list]; exact beq_eq_false_iff_ne.2 n0
  have q1 : (T.toList == [112, 114, 101, 118]) = false := by rw [hT, bs_list]; exact beq_eq_false_iff_ne.2 n1
  rw [hv]
  clear hT hv n0 n1
  go_enter Tryz.func181, Tryz.ntmps181
  go_wp2
  go_ret
  exact ⟨rfl, Ext.refl _⟩
end Go.Proofs.YtnpenepdechkjaaGreatDoor

/- Rows of kids. -/
namespace Go.Proofs.YtnpenepdechkjaaGreatDoor
open Go Go.RowKit

theorem info31 : (Tryz.prog.info? 31).map (fun i => (i.zero, i.size, i.bytes)) = some (some (.agg #[.int .i64 0, .int .i64 0, .string ⟨#[]⟩, .slice none 0 0]), 4, 56) := by kernel_rfl
theorem ownBlock_of {v : Value} {k n : Nat} (h : v.ownBlock ≠ some k) (a : Nat) : v ≠ .slice (some ⟨k, 0, none⟩) n a := fun e => h (by rw [e]; rfl)
/-- A row of kids that the method has made: what the kids hold lies in other blocks; neither is the block av. -/
def KR (W : World) (base av : Nat) (v : Value) (hs : List Nd) (ts : List Tr) : Prop :=
  OL ndcf 4 W base 31 v hs ∧ hs.length = ts.length ∧ v.ownBlock ≠ some av ∧ ∀ (i : Nat) (h : Nd) (t : Tr), hs[i]? = some h → ts[i]? = some t → Rep W (fun k => base ≤ k ∧ v.ownBlock ≠ some k ∧ k ≠ av) h t
theorem KR.lt {W : World} {base av : Nat} {v : Value} {hs : List Nd} {ts : List Tr} (h : KR W base av v hs ts) : ∀ k, v.ownBlock = some k → base ≤ k ∧ k < W.heap.size := World.ownsRow.lt h.1
theorem KR.nil (W : World) (base av : Nat) : KR W base av (.slice none 0 0) [] [] := ⟨OL.nil W base 31, rfl, by simp [Value.ownBlock], fun i h t hh => by simp at hh⟩
theorem OL.keepB {α : Type} {cf : α → List Value} {sz : Nat} {w w' : World} {B : Nat} {e : TypeId} {v : Value} {l : List α} (h : OL cf sz w B e v l) (hk : ∀ k, v.ownBlock = some k → w'.heap[k]? = w.heap[k]?) : OL cf sz w' B e v l := by
  refine ⟨h.1, ?_⟩
  rcases h.2 with h2 | ⟨g, cap, cur, h1, h2, h3, h4⟩
  · exact .inl h2
  · exact .inr ⟨g, cap, cur, h1, h2, by rw [hk g (by rw [h1]; rfl)]; exact h3, h4⟩
theorem KR.keep {W W' : World} {base av : Nat} {v : Value} {hs : List Nd} {ts : List Tr} (h : KR W base av v hs ts) (hsz : W.heap.size ≤ W'.heap.size) (hk : ∀ k, base ≤ k → k ≠ av → k < W.heap.size → W'.heap[k]? = W.heap[k]?) : KR W' base av v hs ts :=
  ⟨OL.keepB h.1 fun k hk' => hk k (h.lt k hk').1 (fun e => h.2.2.1 (by rw [hk', e])) (h.lt k hk').2, h.2.1, h.2.2.1, fun i d t h1 h2 => (h.2.2.2 i d t h1 h2).keep hsz (fun k h3 h4 => hk k h3.1 h3.2.2 h4)⟩
theorem KR.mv {W W' : World} {base av b : Nat} {v : Value} {hs : List Nd} {ts : List Tr} (h : KR W base av v hs ts) (hm : Mv b W W') (hb : b < base) : KR W' base av v hs ts :=
  h.keep hm.size fun k h1 _ h3 => hm.keep k (by omega) h3
/-- A literal slice of kids. -/
theorem KR.lit {X : World} {base av : Nat} (ds : List Nd) (ts : List Tr) (cs : Array Value) (hcs : cs.toList = gcells ndcf ds) (hl : ds.length = ts.length) (hn : ds.length ≤ 100) (hd : ∀ (i : Nat) (h : Nd) (t : Tr), ds[i]? = some h → ts[i]? = some t → Rep X (fun k => base ≤ k ∧ k ≠ av) h t) (hb : base ≤ X.heap.size) (hav : av ≠ X.heap.size) : KR (X.alloc (.cells cs 31)) base av (.slice (some ⟨X.heap.size, 0, none⟩) ds.length ds.length) ds ts := by
  have hlen : cs.size = ds.length * 4 := by
    have := congrArg List.length hcs
    rw [gcells_len ndcf_len, Array.length_toList] at this; exact this
  refine ⟨⟨gcells_len ndcf_len ds, .inr ⟨X.heap.size, ds.length, cs, rfl, hb, heap_alloc_new X _, Nat.le_refl _, by simp [maxLen]; omega, hlen, ?_⟩⟩, hl, ?_, fun i h t h1 h2 => ?_⟩
  · rw [hcs, List.take_of_length_le (by rw [gcells_len ndcf_len]; exact Nat.le_refl _)]
  · intro e
    simp only [Value.ownBlock, Option.some.injEq] at e
    exact hav e.symm
  · exact ((hd i h t h1 h2).mono (Q := fun k => base ≤ k ∧ k ≠ av ∧ k < X.heap.size) (fun k h3 h4 => ⟨h3.1, h3.2, h4⟩)).ext ((Ext.refl X).alloc _) |>.mono fun k hk _ => ⟨hk.1, fun e => by
      simp only [Value.ownBlock, Option.some.injEq] at e
      have := hk.2.2; omega, hk.2.1⟩
/-- append of a further kid, that lies in blocks newer than the row. -/
theorem KR.append {W X : World} {base av : Nat} {v : Value} {hs : List Nd} {ts : List Tr} (h : KR X base av v hs ts) (hW : ∀ k, v.ownBlock = some k → k < W.heap.size) (hav : av < W.heap.size) (d : Nd) (t : Tr) (hd : Rep X (fun k => W.heap.size ≤ k) d t) (hbW : base ≤ W.heap.size) (hWX : W.heap.size ≤ X.heap.size) (hn : hs.length ≤ 100) (g : Nat) (hg : g = X.heap.size) :
    ∃ A' c' w', (Builtin.append_ #[29, 29] 29 #[v, .slice (some ⟨g, 0, none⟩) 1 1]).run Tryz.prog (X.alloc (.cells #[.int .i64 d.k, .int .i64 d.n, .string d.s, .slice d.A d.m d.c] 31)) = .ok (.slice A' (hs.length + 1) c') w' ∧
      KR w' base av (.slice A' (hs.length + 1) c') (hs ++ [d]) (ts ++ [t]) ∧ (∀ B, B ≤ base → Below B X w') ∧ (∀ k, k < X.heap.size → v.ownBlock ≠ some k → w'.heap[k]? = X.heap[k]?) ∧ X.heap.size ≤ w'.heap.size ∧ (∀ k, (Value.slice A' (hs.length + 1) c').ownBlock = some k → v.ownBlock = some k ∨ X.heap.size ≤ k) := by
  subst hg
  obtain ⟨Y, hY⟩ : ∃ Y, Y = X.alloc (.cells #[.int .i64 d.k, .int .i64 d.n, .string d.s, .slice d.A d.m d.c] 31) := ⟨_, rfl⟩
  have hXY : Ext X Y := by rw [hY]; exact (Ext.refl X).alloc _
  have hYs : Y.heap.size = X.heap.size + 1 := by rw [hY]; simp
  have hso := SL.one (cf := ndcf) (sz := 4) X d #[.int .i64 d.k, .int .i64 d.n, .string d.s, .slice d.A d.m d.c] rfl 31
  rw [← hY] at hso ⊢
  obtain ⟨_, hs1⟩ := hso
  have hown : OL ndcf 4 Y base 31 v hs := h.1.ext hXY
  obtain ⟨A', c', w', r1, r2, r3, r4, r5⟩ := run_append_src5 (P := Tryz.prog) (t := 29) (e := 31) (size := 4) (bytes := 56) (base := base) Tryz.underlying29 info31 rfl (by omega) hown (A := some ⟨X.heap.size, 0, none⟩) (m := 1) (c := 1) (news := gcells ndcf [d]) (gcells_len ndcf_len [d])
    (fun _ => ⟨X.heap.size, 0, rfl, fun j u hu => by
      obtain ⟨b, off, e, _, hc⟩ := hs1 (by omega)
      simp only [Option.some.injEq, Addr.mk.injEq] at e
      obtain ⟨rfl, rfl, _⟩ := e
      have := hc 0 d rfl j u (by simpa [gcells] using hu)
      simpa using this⟩)
    (gcells_one ndcf_one [d]) (by simp [maxLen]; omega) (by omega) (by omega)
  have hkeep : ∀ k, k < Y.heap.size → v.ownBlock ≠ some k → w'.heap[k]? = Y.heap[k]? := fun k hk hne => r4 k hk (fun a => ownBlock_of hne a)
  have hsz : Y.heap.size ≤ w'.heap.size := (r3 base (Nat.le_refl _)).size
  have hnew : ∀ k, (Value.slice A' (hs.length + 1) c').ownBlock = some k → v.ownBlock = some k ∨ Y.heap.size ≤ k := fun k e => by
    rcases r5 with r5 | r5
    · exact .inl (r5.symm.trans e)
    · rw [r5] at e
      injection e with e; exact .inr (by omega)
  refine ⟨A', c', w', r1, ⟨?_, by simp [h.2.1], fun e => ?_, fun i e t' h1 h2 => ?_⟩, fun B hB => Below.trans (Below.mono hXY (by omega)) (r3 B hB), fun k hk hne => (hkeep k (by omega) hne).trans (hXY.block k hk), by omega, fun k e => by
    rcases hnew k e with h1 | h1
    · exact .inl h1
    · exact .inr (by omega)⟩
  · unfold OL
    rw [List.length_append, gcells_append]
    exact r2
  · rcases hnew av e with h1 | h1
    · exact h.2.2.1 h1
    · omega
  · rw [List.getElem?_append] at h1 h2
    rw [h.2.1] at h1
    split at h1
    · next hi =>
      rw [if_pos hi] at h2
      have h3 := (h.2.2.2 i e t' h1 h2).ext hXY
      exact ((h3.mono (Q := fun k => base ≤ k ∧ v.ownBlock ≠ some k ∧ k ≠ av ∧ k < Y.heap.size) (fun k h5 h6 => ⟨h5.1, h5.2.1, h5.2.2, h6⟩)).keep hsz (fun k hk hl => hkeep k hl hk.2.1)).mono fun k hk _ => ⟨hk.1, fun e => by
        rcases hnew k e with h7 | h7
        · exact hk.2.1 h7
        · have := hk.2.2.2; omega, hk.2.2.1⟩
    · next hi =>
      rw [if_neg hi] at h2
      have h5 : i - ts.length = 0 := by
        have := (List.getElem?_eq_some_iff.1 h1).1
        simpa using this
      rw [h5] at h1 h2
      simp only [List.getElem?_cons_zero, Option.some.injEq] at h1 h2
      subst h1 h2
      have h3 := hd.ext hXY
      exact ((h3.mono (Q := fun k => W.heap.size ≤ k ∧ k < Y.heap.size) (fun k h5 h6 => ⟨h5, h6⟩)).keep hsz (fun k hk hl => hkeep k hl (fun e => by have := hW k e; omega))).mono fun k hk _ => ⟨Nat.le_trans hbW hk.1, fun e => by
        rcases hnew k e with h7 | h7
        · have := hW k h7; have := hk.1; omega
        · have := hk.2; omega, by have := hk.1; omega⟩
/-- The node over a row of kids. -/
theorem KR.rep {W : World} {base av : Nat} {v : Value} {hs : List Nd} {ts : List Tr} (h : KR W base av v hs ts) (k n : Int) (s : List UInt8) : ∃ A c, v = .slice A hs.length c ∧ Rep W (fun k => base ≤ k ∧ k ≠ av) ⟨k, n, ⟨s.toArray⟩, A, hs.length, c⟩ (.nd k n s ts) := by
  obtain ⟨A, c, e, _, hs1⟩ := OL.form ndcf_len h.1
  refine ⟨A, c, e, .mk k n s A c hs ts (fun x hx => ?_) hs1 h.2.1 fun i d t h1 h2 => (h.2.2.2 i d t h1 h2).mono fun k hk _ => ⟨hk.1, hk.2.2⟩⟩
  have := h.lt x.block (by rw [e, hx]; rfl)
  exact ⟨⟨this.1, fun e9 => h.2.2.1 (by rw [e, hx, ← e9]; rfl)⟩, this.2⟩
/-- What append leaves as it was. -/
theorem Mv.grow {b base : Nat} {W X X' : World} {v : Value} (h : Mv b W X) (hb : b < W.heap.size) (hW : W.heap.size ≤ base) (hbel : ∀ B, B ≤ base → Below B X X') (hkeep : ∀ k, k < X.heap.size → v.ownBlock ≠ some k → X'.heap[k]? = X.heap[k]?) (hown : ∀ k, v.ownBlock = some k → base ≤ k) (hsz : X.heap.size ≤ X'.heap.size) : Mv b W X' :=
  ⟨Nat.le_trans h.size hsz, fun k h1 h2 => (hkeep k (Nat.lt_of_lt_of_le h2 h.size) (fun e => by have := hown k e; omega)).trans (h.keep k h1 h2), fun w0 h1 h2 => Below.trans (h.ext w0 h1 h2) (hbel _ (by omega))⟩
/-- A node in a block of its own. -/
structure NB (W : World) (g : Nat) (k n : Int) (S : ByteArray) (v : Value) : Prop where
  lt : g < W.heap.size
  c0 : W.cell? ⟨g, 0, none⟩ = some (.int .i64 k)
  c1 : W.cell? ⟨g, 1, none⟩ = some (.int .i64 n)
  c2 : W.cell? ⟨g, 2, none⟩ = some (.string S)
  c3 : W.cell? ⟨g, 3, none⟩ = some v
  f0 : W.frozen? ⟨g, 0, none⟩ = false
  f1 : W.frozen? ⟨g, 1, none⟩ = false
  f2 : W.frozen? ⟨g, 2, none⟩ = false
  f3 : W.frozen? ⟨g, 3, none⟩ = false
theorem NB.of_block {W : World} {g : Nat} {k n : Int} {S : ByteArray} {v : Value} (h : W.heap[g]? = some (.cells #[.int .i64 k, .int .i64 n, .string S, v] 31 (0, 0))) : NB W g k n S v :=
  ⟨lt_of_block h, by rw [cell_of_row W _ _ _ 31 (0, 0) h]; rfl, by rw [cell_of_row W _ _ _ 31 (0, 0) h]; rfl, by rw [cell_of_row W _ _ _ 31 (0, 0) h]; rfl, by rw [cell_of_row W _ _ _ 31 (0, 0) h]; rfl, frozen_of_row W _ _ _ 31 h, frozen_of_row W _ _ _ 31 h, frozen_of_row W _ _ _ 31 h, frozen_of_row W _ _ _ 31 h⟩
end Go.Proofs.YtnpenepdechkjaaGreatDoor

/- A region that draws its order, where a load may be taken first although an operation at the region's end writes its cell: two conditions on the world, T behind every operation, S behind those outside E. -/
namespace Go.Proofs.YtnpenepdechkjaaGreatDoor
open Go
section
variable {P : Program} {ops : Array Oper} {Q : Exit → Act → World → Prop} {md : Region.Mode} {S T : World → Prop} {E : Nat → Bool}

def CondE (S T : World → Prop) (E : Nat → Bool) (j : Nat) (w : World) : Prop := (E j = false → S w) ∧ T w
def wpE (P : Program) (md : Region.Mode) (ops : Array Oper) (Q : Exit → Act → World → Prop) (S T : World → Prop) (E : Nat → Bool) : Nat → Array Bool → Act → World → Prop
  | 0, l, a, w => Region.ready md ops l = [] ∧ Q .normal a w
  | n + 1, l, a, w => (Region.ready md ops l = [] → Q .normal a w) ∧ ∀ i ∈ Region.ready md ops l, wpOp P ops Q i (fun a' w' => CondE S T E i w' ∧ wpE P md ops Q S T E n (l.setIfInBounds i true) a' w') a w

theorem wpE_any : ∀ (n : Nat) (l : Array Bool) (a : Act) (w : World), wpE P md ops Q S T E n l a w → wpAny P md ops Q n l a w
  | 0, _, _, _, h => h
  | n + 1, _, _, _, h => ⟨h.1, fun i hi => wpOp_mono (fun _ _ g => wpE_any n _ _ _ g.2) (h.2 i hi)⟩

/-- No operation but i itself stands before i. -/
def Later (md : Region.Mode) (oj : Oper) (i : Nat) : Prop := ∀ e ∈ oj.after, Region.binds md e = true → e.on ≠ i
theorem wpE_first {U : World → Prop} {i : Nat} {oi : Oper} {v : Value} (hi : ops[i]? = some oi) (hsel : ∀ (j : Nat) (o : Oper) cs b, ops[j]? = some o → o.op ≠ .select cs b)
    (hQ : ∀ c a w, Q (.panic c) (a.put oi.dst v) w → Q (.panic c) a w) (hUC : ∀ w, U w → T w → CondE S T E i w) :
    ∀ (n : Nat) (l : Array Bool) (a : Act) (w : World),
      (∀ j oj, ops[j]? = some oj → j ≠ i → l.getD j true = false → Later md oj i → oi.apart ops oj = true ∧ ∀ w', CondE S T E j w' → U w') →
      i ∈ Region.ready md ops l → YieldsIf P ops U oi v a → U w → T w →
      wpE P md ops Q S T E n (l.setIfInBounds i true) (a.put oi.dst v) w → wpE P md ops Q S T E (n + 1) l a w := by
  intro n
  induction n with
  | zero =>
    intro l a w _ hr hy hU hC H
    refine ⟨fun h => absurd hr (by rw [h]; simp), fun j hj => ?_⟩
    by_cases e : j = i
    · subst e; exact hy.wpOp hi hU ⟨hUC _ hU hC, H⟩
    · exact absurd (ready_mono hj e) (by rw [H.1]; simp)
  | succ n ih =>
    intro l a w hf hr hy hU hC H
    refine ⟨fun h => absurd hr (by rw [h]; simp), fun j hj => ?_⟩
    by_cases e : j = i
    · subst e; exact hy.wpOp hi hU ⟨hUC _ hU hC, H⟩
    have hl := (mem_ready.1 hr).1
    obtain ⟨hju, oj, hoj, hall⟩ := mem_ready.1 hj
    have hlate : Later md oj i := fun d hd hb hon => by
      have h1 := hall d hd hb
      rw [hon] at h1
      by_cases hs : i < l.size
      · simp [hs] at hl h1; simp [hl] at h1
      · simp [Array.getElem?_eq_none (Nat.le_of_not_lt hs)] at h1
    obtain ⟨hap, hnext⟩ := hf j oj hoj e hju hlate
    have hmoved := wpOp_putIf hoj hap (fun cs b => hsel i oi cs b hi) (fun cs b => hsel j oj cs b hoj) hQ hy (H.2 j (ready_mono hj e))
    refine wpOp_mono (fun a' w' g => ?_) hmoved
    obtain ⟨g1, g2, g3⟩ := g
    refine ⟨g2, ih _ a' w' (fun k ok hk hki hku hkl => ?_) (ready_mono hr (Ne.symm e)) g1 (hnext w' g2) g2.2 (by rw [Array.setIfInBounds_comm _ _ e]; exact g3)⟩
    refine hf k ok hk hki ?_ hkl
    by_cases ejk : j = k
    · subst ejk; exact hju
    · rwa [getD_set_ne true ejk] at hku

/-- Every operation of E that has not come up yet waits for i. -/
def waitsB (md : Region.Mode) (ops : Array Oper) (l : Array Bool) (E : Nat → Bool) (i : Nat) : Bool :=
  (List.range ops.size).all fun j => !E j || l.getD j true || match ops[j]? with | some oj => oj.after.any (fun e => Region.binds md e && e.on == i) | none => true
theorem waitsB_spec {l : Array Bool} {i j : Nat} {oj : Oper} (h : waitsB md ops l E i = true) (hj : ops[j]? = some oj) (hl : l.getD j true = false) (hno : Later md oj i) : E j = false := by
  unfold waitsB at h
  rw [List.all_eq_true] at h
  have h1 := h j (List.mem_range.2 (Array.getElem?_eq_some_iff.1 hj).1)
  rw [hj, hl] at h1
  cases hE : E j with
  | false => rfl
  | true =>
    rw [hE] at h1
    simp only [Bool.not_true, Bool.or_false, Bool.false_or] at h1
    obtain ⟨e, he, h2⟩ := Array.any_eq_true'.1 h1
    simp only [Bool.and_eq_true, beq_iff_eq] at h2
    exact absurd h2.2 (hno e he h2.1)
/-- Take i first: what it yields hangs on T alone. -/
theorem wpE_takeT {i : Nat} {oi : Oper} {d : Option Tmp} {v : Value} {n : Nat} {l : Array Bool} {a : Act} {w : World} (hi : ops[i]? = some oi) (hd : oi.dst = d)
    (hs : Region.noSelect ops = true) (hf : Region.free md ops l i = true) (hr : (Region.ready md ops l).contains i = true) (hE : E i = true)
    (hQ : ∀ c a w, Q (.panic c) (a.put d v) w → Q (.panic c) a w) (hw : Region.wanted oi (yielded ops a.tmps) = true) (hy : ∀ w, T w → (execOp a.eval oi).run P w = .ok (.value v) w) (hT : T w)
    (h : wpE P md ops Q S T E n (l.setIfInBounds i true) (a.put d v) w) : wpE P md ops Q S T E (n + 1) l a w := by
  subst hd
  exact wpE_first (U := T) hi (Region.noSelect_spec hs) hQ (fun _ _ hT => ⟨fun h => absurd (hE.symm.trans h) (by simp), hT⟩) n l a w (fun j oj hj hne hun hno => ⟨Region.free_spec hi hf j oj hj hne hun hno, fun w' hC => hC.2⟩) (by simpa using hr) (.inl ⟨hw, hy⟩) hT hT h
/-- Take i first: what it yields hangs on S. -/
theorem wpE_takeS {i : Nat} {oi : Oper} {d : Option Tmp} {v : Value} {n : Nat} {l : Array Bool} {a : Act} {w : World} (hi : ops[i]? = some oi) (hd : oi.dst = d)
    (hs : Region.noSelect ops = true) (hf : Region.free md ops l i = true) (hr : (Region.ready md ops l).contains i = true) (hE : waitsB md ops l E i = true)
    (hQ : ∀ c a w, Q (.panic c) (a.put d v) w → Q (.panic c) a w) (hw : Region.wanted oi (yielded ops a.tmps) = true) (hy : ∀ w, S w → (execOp a.eval oi).run P w = .ok (.value v) w) (hS : S w) (hT : T w)
    (h : wpE P md ops Q S T E n (l.setIfInBounds i true) (a.put d v) w) : wpE P md ops Q S T E (n + 1) l a w := by
  subst hd
  exact wpE_first (U := S) hi (Region.noSelect_spec hs) hQ (fun _ hS hT => ⟨fun _ => hS, hT⟩) n l a w (fun j oj hj hne hun hno => ⟨Region.free_spec hi hf j oj hj hne hun hno, fun w' hC => hC.1 (waitsB_spec hE hj hun hno)⟩) (by simpa using hr) (.inl ⟨hw, hy⟩) hS hT h
def AllE (P : Program) (md : Region.Mode) (ops : Array Oper) (Q : Exit → Act → World → Prop) (S T : World → Prop) (E : Nat → Bool) (n : Nat) (l : Array Bool) (a : Act) (w : World) (rs : List Nat) : Prop :=
  ∀ i ∈ rs, wpOp P ops Q i (fun a' w' => CondE S T E i w' ∧ wpE P md ops Q S T E n (l.setIfInBounds i true) a' w') a w
theorem wpE_all {rs : List Nat} {n : Nat} {l : Array Bool} {a : Act} {w : World} (hr : Region.ready md ops l = rs) (hne : rs ≠ []) (h : AllE P md ops Q S T E n l a w rs) : wpE P md ops Q S T E (n + 1) l a w :=
  ⟨fun h0 => absurd (hr ▸ h0) hne, hr ▸ h⟩
theorem AllE.nil {n : Nat} {l : Array Bool} {a : Act} {w : World} : AllE P md ops Q S T E n l a w [] := fun i hi => by cases hi
/-- What follows the operation i, shut: 'out' opens it. -/
structure NextE (P : Program) (md : Region.Mode) (ops : Array Oper) (Q : Exit → Act → World → Prop) (S T : World → Prop) (E : Nat → Bool) (n : Nat) (l : Array Bool) (i : Nat) (K : Act → World → Prop) : Prop where
  out : ∀ a w, CondE S T E i w → (CondE S T E i w → wpE P md ops Q S T E n (l.setIfInBounds i true) a w) → K a w
theorem AllE.cons {n : Nat} {l : Array Bool} {a : Act} {w : World} {i : Nat} {o : Oper} {rs : List Nat} (ho : ops[i]? = some o)
    (h : ∀ K : Act → World → Prop, NextE P md ops Q S T E n l i K → if Region.wanted o (yielded ops a.tmps) = true then Oper.wp P o a w K Q else K (a.put o.dst undef) w)
    (hs : AllE P md ops Q S T E n l a w rs) : AllE P md ops Q S T E n l a w (i :: rs) := fun j hj => by
  rcases List.mem_cons.1 hj with e | e
  · subst e
    exact wpOp_step ho fun K hK => h K ⟨fun a w hC hN => hK a w ⟨hC, hN hC⟩⟩
  · exact hs j e
theorem wpE_done {l : Array Bool} {a : Act} {w : World} (hr : Region.ready md ops l = []) (h : Q .normal a w) : ∀ n, wpE P md ops Q S T E n l a w
  | 0 => ⟨hr, h⟩
  | _ + 1 => ⟨fun _ => h, by rw [hr]; simp⟩
theorem wp_region_E {id : Nat} {a : Act} {w : World} (S T : World → Prop) (E : Nat → Bool) (hm : P.follows .mixedOrders = true) (h : wpE P .any ops Q S T E ops.size (Array.replicate ops.size false) a w.drew) : (Code.region id ops true).wp P Q a w :=
  wp_region_any hm (wpE_any _ _ _ _ h)
end
end Go.Proofs.YtnpenepdechkjaaGreatDoor

/- The production's choice. -/
namespace Go.Proofs.YtnpenepdechkjaaGreatDoor
open Go Go.RowKit

/-- A node in a block of its own, whole. -/
def NX (W : World) (g : Nat) (k n : Int) (S : ByteArray) (v : Value) : Prop := W.heap[g]? = some (.cells #[.int .i64 k, .int .i64 n, .string S, v] 31 (0, 0))
theorem NX.mv {W W' : World} {b g : Nat} {k n : Int} {S : ByteArray} {v : Value} (h : NX W g k n S v) (hm : Mv b W W') (hg : g ≠ b) : NX W' g k n S v := (hm.keep g hg (lt_of_block h)).trans h
theorem NX.nb {W : World} {g : Nat} {k n : Int} {S : ByteArray} {v : Value} (h : NX W g k n S v) : NB W g k n S v := NB.of_block h
def RT (base : Nat) (W : World) (t : Tr) (v : Value) : Prop := ∃ d : Nd, v = .agg #[.int .i64 d.k, .int .i64 d.n, .string d.s, .slice d.A d.m d.c] ∧ Rep W (fun k => base ≤ k) d t
/-- What is known of expr, called with less to read. -/
def EC (E : Nat → Nat → List Tk → PR Tr) (M : Nat) : Prop := ∀ (W : World) (b : Nat) (A : Option Addr) (N c : Nat) (toks : List Tk) (a o lv : Nat), PB W b A N c toks a o → o ≤ 12 → 1 ≤ lv → lv ≤ 8 → 9 * (N - a) + (8 - lv) < M →
  Calls Tryz.prog 87 #[.pointer (some ⟨b, 0, none⟩), .int .i64 (lv : Int)] W (GP b A N c toks a o (RT W.heap.size) W (E lv o (toks.drop a)))
theorem opens_ok {s : List UInt8} {o : Nat} {r r1 : List Tk} {u : Unit} (h : opensP s o r = .ok u r1) : r1 = r.tail ∧ o ≠ 12 ∧ (hd r).tx = s := by
  unfold opensP at h
  split at h
  · split at h
    · cases h
    · injection h with _ h2
      exact ⟨h2.symm, by assumption, by assumption⟩
  · cases h
theorem must_ok {s : List UInt8} {r r1 : List Tk} {u : Unit} (h : mustP s r = .ok u r1) : r1 = r.tail := by
  unfold mustP at h
  split at h
  · injection h with _ h2; exact h2.symm
  · cases h
theorem drop_at {toks : List Tk} {a a' : Nat} (ha : a' < toks.length) (h : (toks.drop a).tail = toks.drop a') : a < a' := by
  rw [List.tail_drop] at h
  have := congrArg List.length h
  simp at this
  omega
theorem step_append_run {P : Program} {w : World} {ops : Array Oper} {o : Oper} {a : Act} {K : Act → World → Prop} {Q : Exit → Act → World → Prop} {E : Prop} {s x : Operand} {t : TypeId} {vs vx v' : Value} {w' : World}
    (hr : (Builtin.append_ #[t, t] t #[vs, vx]).run P w = .ok v' w') (hg : o.guard = none)
    (ho : o.op = .call { callee := .builtin .append, args := #[s, x], argTypes := #[t, t] }) (hty : o.type = t) (hs : a.eval s = vs) (hx : a.eval x = vx)
    (h : K (a.put o.dst v') w') : if Region.wanted o (yielded ops a.tmps) = true then Oper.wp P o a w K Q else E := by
  have hw : Region.wanted o (yielded ops a.tmps) = true := by simp [Region.wanted, hg]
  rw [if_pos hw]
  unfold Oper.wp execOp
  simp only [ho, hty, resolve, invoke, builtin, Sem.run_bind, Sem.run_pure, Result.andThen_ok, List.map_toArray, List.map_cons, List.map_nil, hs, hx, hr]
  exact h
def chR (E : Nat → Nat → List Tk → PR Tr) (o : Nat) : Nat → List Tr → List Tk → PR Tr
  | 0, ts, r => (mustP wThen r).bind fun _ r => (E 1 (o + 1) r).bind fun b r => (mustP wElse r).bind fun _ r => (E 1 (o + 1) r).bind fun c r => (mustP wEnd r).bind fun _ r => .ok (.nd 9 0 [] (ts ++ [b] ++ [c])) r
  | 1, ts, r => (mustP wElse r).bind fun _ r => (E 1 (o + 1) r).bind fun c r => (mustP wEnd r).bind fun _ r => .ok (.nd 9 0 [] (ts ++ [c])) r
  | _ + 2, ts, r => (mustP wEnd r).bind fun _ r => .ok (.nd 9 0 [] ts) r
def chW (k : Nat) : List UInt8 := if k = 0 then wThen else wElse
theorem chR_step (E : Nat → Nat → List Tk → PR Tr) (o k : Nat) (hk : k < 2) (ts : List Tr) (r : List Tk) : chR E o k ts r = (mustP (chW k) r).bind fun _ r => (E 1 (o + 1) r).bind fun b r => chR E o (k + 1) (ts ++ [b]) r := by
  obtain rfl | rfl : k = 0 ∨ k = 1 := by omega
  · rfl
  · rfl
theorem choice_ch (E : Nat → Nat → List Tk → PR Tr) (o : Nat) (r : List Tk) : choiceP E o r = (opensP wIf o r).bind fun _ r => (E 1 (o + 1) r).bind fun a r => chR E o 0 [a] r := rfl
/-- A region that ends in the panic of a callee. -/
def PanX (b : Nat) (A : Option Addr) (N c : Nat) (toks : List Tk) (a : Nat) (W : World) (r : List Tk) (er : Int) (e : Exit) (act : Act) (X : World) : Prop :=
  ∃ a6 o6, act.defers = [] ∧ e = .panic [{ v := failV r er, recovered := false }] ∧ a ≤ a6 ∧ r = toks.drop a6 ∧ PB X b A N c toks a6 o6 ∧ Mv b W X
def ChRel (W : World) (b : Nat) (A : Option Addr) (N c : Nat) (toks : List Tk) (a o : Nat) (E : Nat → Nat → List Tk → PR Tr) (RES : PR Tr) (g2 g3 gs : Nat) (s14 : Value) (X : World) : Prop :=
  ∃ (k a' : Nat) (A3 : Option Addr) (c3 : Nat) (hs : List Nd) (ts : List Tr), k ≤ 2 ∧ s14 = .int .i64 k ∧ a < a' ∧ hs.length = k + 1 ∧ PB X b A N c toks a' (o + 1) ∧ NX X g3 9 0 ⟨#[]⟩ (.slice A3 (k + 1) c3) ∧ KR X (W.heap.size + 1) g3 (.slice A3 (k + 1) c3) hs ts ∧
    (∀ j, j < 2 → X.cell? ⟨gs, j, none⟩ = some (.string (bs (chW j)))) ∧ gs < X.heap.size ∧ NX X g2 0 0 ⟨#[]⟩ (.slice none 0 0) ∧ chR E o k ts (toks.drop a') = RES ∧ Mv b W X ∧ (Value.slice A3 (k + 1) c3).ownBlock ≠ some gs
def toM (n : Nat) (v : Value) : Nat := match v with | .int _ z => n - z.toNat | _ => 0
set_option maxHeartbeats 4000000 in
set_option maxRecDepth 100000 in
theorem pchoice_any {E : Nat → Nat → List Tk → PR Tr} {M : Nat} (hE : EC E M) {W : World} {b : Nat} {A : Option Addr} {N c : Nat} {toks : List Tk} {a o : Nat} (h : PB W b A N c toks a o) (ho : o ≤ 12) (hM : 9 * (N - a) ≤ M) :
    Calls Tryz.prog 160 #[.pointer (some ⟨b, 0, none⟩)] W (GP b A N c toks a o (RT W.heap.size) W (choiceP E o (toks.drop a))) := by
  have HP := Lib.hid h
  have HLEN := Lib.hid h.len
  have hx0 : Ext W (W.alloc (.cells #[.int .i64 0, .int .i64 0, .string ⟨#[]⟩, .slice none 0 0] 31)) := (Ext.refl W).alloc _
  have HO := Lib.hid (fun X (hX : Ext W X) => popens_any (h.ext hX) ho wIf ⟨#[105, 102]⟩ rfl (by decide))
  have HX0 := Lib.hid hx0
  rw [choice_ch]
  have hNa : a < N := h.at_
  cases hO : opensP wIf o (toks.drop a) with
  | bad r er =>
    rw [hO] at HO
    rw [PR.bind_bad]
    clear h hx0 hO
    go_enter Tryz.func160, Tryz.ntmps160
    go_wp2_with (first | (go_at_call 127; refine (HO.out _ HX0.out).mono ?_; rintro e w1 ⟨a', o', rfl, ha, hr, hp, hm⟩; have HR := Lib.hid hr; clear hr))
    exact ⟨rfl, a', o', rfl, ha, HR.out, hp, (Mv.of_ext HX0.out).trans hm⟩
  | ok u r1 =>
    rw [hO] at HO
    rw [PR.bind_ok]
    have hO' := opens_ok hO
    have HO1 := Lib.hid hO'.1
    have ho11 : o + 1 ≤ 12 := by have := hO'.2.1; omega
    cases hA : E 1 (o + 1) r1 with
    | bad r er =>
      have HA := Lib.hid hA
      rw [PR.bind_bad]
      clear h hx0 hO hA hO'
      go_enter Tryz.func160, Tryz.ntmps160
      go_wp2_with (first
        | (go_at_call 127; refine (HO.out _ HX0.out).mono ?_; rintro e w1 ⟨v, a1, rfl, rfl, ha, hr, hp, hm⟩; have HR1 := Lib.hid hr; have HP1 := Lib.hid hp; clear hr hp)
        | (go_at_call 87; have h9 := hE w1 b A N c toks a1 (o + 1) 1 HP1.out ho11 (by omega) (by omega) (by have := drop_at (by rw [← HLEN.out]; exact HP1.out.at_) (HO1.out.symm.trans HR1.out); omega); rw [← HR1.out, HA.out] at h9; refine h9.mono ?_; clear h9; rintro e w2 ⟨a2, o2, rfl, ha2, hr2, hp2, hm2⟩; have HR2 := Lib.hid hr2; clear hr2))
      exact ⟨rfl, a2, o2, rfl, Nat.le_trans ha ha2, HR2.out, hp2, ((Mv.of_ext HX0.out).trans hm).trans hm2⟩
    | ok ta r2 =>
      rw [PR.bind_ok]
      have HA := Lib.hid hA
      obtain ⟨RES, hRES⟩ : ∃ R, R = chR E o 0 [ta] r2 := ⟨_, rfl⟩
      have HRS := Lib.hid hRES
      rw [← hRES]
      clear h hx0 hO hA hO' hRES
      go_enter Tryz.func160, Tryz.ntmps160
      go_upto_region 3 with (first
        | (go_at_call 127; refine (HO.out _ HX0.out).mono ?_; rintro e w1 ⟨v, a1, rfl, rfl, ha, hr, hp, hm⟩; have HR1 := Lib.hid hr; have HP1 := Lib.hid hp; clear hr hp)
        | (go_at_call 87; have h9 := hE w1 b A N c toks a1 (o + 1) 1 HP1.out ho11 (by omega) (by omega) (by have := drop_at (by rw [← HLEN.out]; exact HP1.out.at_) (HO1.out.symm.trans HR1.out); omega); rw [← HR1.out, HA.out] at h9; refine h9.mono ?_; clear h9; rintro e w2 ⟨v2, a2, rfl, ⟨d, rfl, hrep⟩, ha2, hr2, hp2, hm2⟩; have HR2 := Lib.hid hr2; have HREP := Lib.hid hrep; clear hr2 hrep))
      have hbW : b < W.heap.size := HP.out.lt
      have h1s : W.heap.size + 1 ≤ w1.heap.size := by have := hm.size; simpa using this
      have hmv := ((Mv.of_ext HX0.out).trans hm).trans hm2
      have hg2 : NX w2 W.heap.size 0 0 ⟨#[]⟩ (.slice none 0 0) := (NX.mv (show NX (W.alloc (.cells #[.int .i64 0, .int .i64 0, .string ⟨#[]⟩, .slice none 0 0] 31)) W.heap.size 0 0 ⟨#[]⟩ (.slice none 0 0) from heap_alloc_new _ _) (hm.trans hm2) (by omega))
      have hk3 := KR.lit (X := w2) (base := W.heap.size + 1) (av := w2.heap.size + 1) [d] [ta] #[.int .i64 d.k, .int .i64 d.n, .string d.s, .slice d.A d.m d.c] rfl rfl (by simp) (fun i e t' h1 h2 => by
        have : i = 0 := by
          have := (List.getElem?_eq_some_iff.1 h1).1
          simpa using this
        subst this
        simp only [List.getElem?_cons_zero, Option.some.injEq] at h1 h2
        subst h1 h2
        exact HREP.out.mono fun k hk hk2 => by omega) (by have := hm2.size; omega) (by omega)
      obtain ⟨w3, hw3⟩ : ∃ w3, w3 = w2.alloc (.cells #[.int .i64 d.k, .int .i64 d.n, .string d.s, .slice d.A d.m d.c] 31) := ⟨_, rfl⟩
      obtain ⟨w4, hw4⟩ : ∃ w4, w4 = w3.alloc (.cells #[.int .i64 9, .int .i64 0, .string ⟨#[]⟩, .slice (some ⟨w2.heap.size, 0, none⟩) 1 1] 31) := ⟨_, rfl⟩
      rw [← hw3] at hk3 ⊢
      have hx3 : Ext w2 w3 := by rw [hw3]; exact (Ext.refl _).alloc _
      have hs3 : w3.heap.size = w2.heap.size + 1 := by rw [hw3]; simp
      have hn3 : NX w4 (w2.heap.size + 1) 9 0 ⟨#[]⟩ (.slice (some ⟨w2.heap.size, 0, none⟩) 1 1) := by
        rw [hw4, ← hs3]; exact heap_alloc_new _ _
      rw [← hw4]
      have hx4 : Ext w3 w4 := by rw [hw4]; exact (Ext.refl _).alloc _
      clear hw3 hw4
      have hx5 : Ext w4 (w4.alloc (.cells #[.string ⟨#[116, 104, 101, 110]⟩, .string ⟨#[101, 108, 115, 101]⟩] 9)) := (Ext.refl _).alloc _
      have hrow : (w4.alloc (.cells #[.string ⟨#[116, 104, 101, 110]⟩, .string ⟨#[101, 108, 115, 101]⟩] 9)).heap[w4.heap.size]? = some (.cells #[.string ⟨#[116, 104, 101, 110]⟩, .string ⟨#[101, 108, 115, 101]⟩] 9 (0, 0)) := heap_alloc_new _ _
      obtain ⟨g2, hg2e⟩ : ∃ g, g = W.heap.size := ⟨_, rfl⟩
      obtain ⟨g3, hg3e⟩ : ∃ g, g = w2.heap.size + 1 := ⟨_, rfl⟩
      have hstart : ChRel W b A N c toks a o E RES g2 g3 w4.heap.size (.int .i64 0) (w4.alloc (.cells #[.string ⟨#[116, 104, 101, 110]⟩, .string ⟨#[101, 108, 115, 101]⟩] 9)) := by
        have hs4 := hx4.lt
        have hm25 : Mv b w2 (w4.alloc (.cells #[.string ⟨#[116, 104, 101, 110]⟩, .string ⟨#[101, 108, 115, 101]⟩] 9)) := Mv.of_ext ((hx3.trans hx4).trans hx5)
        have h2s := hm2.size
        refine ⟨0, a2, some ⟨w2.heap.size, 0, none⟩, 1, [d], [ta], by omega, rfl, ?_, rfl, hp2.ext ((hx3.trans hx4).trans hx5), ?_, ?_, fun j hj => ?_, by simp, ?_, ?_, hmv.trans hm25, ?_⟩
        · have := drop_at (by rw [← HLEN.out]; exact HP1.out.at_) (HO1.out.symm.trans HR1.out); omega
        · rw [hg3e]; exact hn3.mv (Mv.of_ext hx5 : Mv b _ _) (by omega)
        · rw [hg3e]; exact hk3.mv (Mv.of_ext (hx4.trans hx5) : Mv b _ _) (by omega)
        · rw [cell_of_row _ _ _ _ 9 (0, 0) hrow]
          obtain rfl | rfl : j = 0 ∨ j = 1 := by omega
          · rfl
          · rfl
        · rw [hg2e]; exact hg2.mv hm25 (by omega)
        · rw [HRS.out, HR2.out]
        · intro e; simp only [Value.ownBlock, Option.some.injEq] at e; omega
      have HST := Lib.hid hstart
      have HG2 := Lib.hid hg2e
      rw [← hg3e]
      have hg23 : g2 < g3 := by have := hm2.size; omega
      have hg3s : g3 < w4.heap.size := lt_of_block (hg3e ▸ hn3)
      clear hstart hrow hx5 hx4 hs3 hx3 hn3 hk3 hg2 hmv h1s hp2 hm2 HREP HR2 HR1 HP1 hm ha2 ha HA HO1 HO HX0 hg3e HRS
      rw [← hg2e] at hbW
      have hbg2 : b < g2 := hbW
      clear hg2e
      go_wp2_with fail
      go_loopw [14] (fun s14 X => ChRel W b A N c toks a o E RES g2 g3 w4.heap.size s14 X) (fun s14 _ => toM 3 s14)
      case atStart => exact HST.out
      case round =>
        clear HST
        generalize w4.heap.size = gs at *
        obtain ⟨k, a', A3, c3, hs, ts, hk2, rfl, haa, hhl, hpb, hnx, hkr, hstr, hgs, hg2x, hres, hmv, hne4⟩ := hrel
        have HPB := Lib.hid hpb
        have HNX := Lib.hid hnx
        have HKR := Lib.hid hkr
        have HSTR := Lib.hid hstr
        have HG2X := Lib.hid hg2x
        have HMV := Lib.hid hmv
        have HNE4 := Lib.hid hne4
        have HHL := Lib.hid hhl
        have hlen := HLEN.out
        clear hpb hnx hkr hstr hg2x hmv hne4 hhl
        by_cases hk : k < 2
        · have hkI : (k : Int) < 2 := by omega
          rw [chR_step E o k hk] at hres
          obtain ⟨S, hS⟩ : ∃ S, S = bs (chW k) := ⟨_, rfl⟩
          have hcell : wr.cell? ⟨gs, k, none⟩ = some (.string S) := by rw [hS]; exact HSTR.out k hk
          have hSne : chW k ≠ [] := by unfold chW; split <;> decide
          have HMU := Lib.hid (pmust_any HPB.out (chW k) S hS hSne)
          clear hS hSne
          cases hM : mustP (chW k) (toks.drop a') with
          | bad r er =>
            rw [hM] at HMU
            rw [hM, PR.bind_bad] at hres
            subst hres
            clear hM hlen
            go_wp2_with (first | (go_at_call 74; refine (HMU.out).mono ?_; rintro e w5 ⟨a5, o5, rfl, ha5, hr5, hp5, hm5⟩; have HR5 := Lib.hid hr5; clear hr5))
            exact ⟨rfl, a5, o5, rfl, by omega, HR5.out, hp5, HMV.out.trans hm5⟩
          | ok u r1 =>
            rw [hM] at HMU
            rw [hM, PR.bind_ok] at hres
            have HR1 := Lib.hid (must_ok hM)
            clear hM
            cases hB : E 1 (o + 1) r1 with
            | bad r er =>
              rw [hB, PR.bind_bad] at hres
              have HB := Lib.hid hB
              subst hres
              clear hB
              go_upto_region 7 with (first | (go_at_call 74; refine (HMU.out).mono ?_; rintro e w5 ⟨v5, a5, rfl, rfl, ha5, hr5, hp5, hm5⟩; have HR5 := Lib.hid hr5; have HP5 := Lib.hid hp5; clear hr5 hp5))
              have hlt5 : a' < a5 := drop_at (by rw [← HLEN.out]; exact HP5.out.at_) (HR1.out.symm.trans HR5.out)
              have hE5 := hE w5.drew b A N c toks a5 (o + 1) 1 (HP5.out.ext (Ext.refl _).drew) ho11 (by omega) (by omega) (by have := HP5.out.at_; omega)
              rw [← HR5.out, HB.out] at hE5
              have HE5 := Lib.hid hE5
              have HNX5 := Lib.hid (HNX.out.mv hm5 (by omega))
              have e3 := HNX5.out.nb.c3
              clear hE5 hlen
              refine wp_region_E (fun _ => True) (fun X => X.cell? ⟨g3, 3, none⟩ = some (.slice A3 (k + 1) c3)) (fun _ => true) (by kernel_rfl) ?_
              have hT0 : w5.drew.cell? ⟨g3, 3, none⟩ = some (.slice A3 (k + 1) c3) := e3
              refine wpE_takeT (i := 0) (d := some 21) (v := .pointer (some ⟨g3, 3, none⟩)) rfl rfl (by kernel_rfl) (by kernel_rfl) (by kernel_rfl) rfl (fun _ _ _ h => h) (by rfl) ?hy0 hT0 ?go0
              case hy0 =>
                intro w9 hT9
                clear e3
                go_simp
              (try simp only [Act.put, List.setIfInBounds_toArray, List.set_cons_zero, List.set_cons_succ])
              refine wpE_takeT (i := 1) (d := some 22) (v := .slice A3 (k + 1) c3) rfl rfl (by kernel_rfl) (by kernel_rfl) (by kernel_rfl) rfl (fun _ _ _ h => h) (by rfl) ?hy1 hT0 ?go1
              case hy1 =>
                intro w9 hT9
                clear e3
                go_simp
              (try simp only [Act.put, List.setIfInBounds_toArray, List.set_cons_zero, List.set_cons_succ])
              refine wpE_takeT (i := 2) (d := some 23) (v := .pointer (some ⟨b, 0, none⟩)) rfl rfl (by kernel_rfl) (by kernel_rfl) (by kernel_rfl) rfl (fun _ _ _ h => h) (by rfl) ?hy2 hT0 ?go2
              case hy2 =>
                intro w9 hT9
                clear e3
                go_simp
              (try simp only [Act.put, List.setIfInBounds_toArray, List.set_cons_zero, List.set_cons_succ])
              refine wpE_all (rs := [3]) (by kernel_rfl) (by simp) ?_
              refine AllE.cons rfl (fun K hK => ?_) AllE.nil
              simp only [List.getElem_toArray, List.getElem_cons_succ, List.getElem_cons_zero]
              go_simp
              go_at_call 87
              refine (HE5.out).mono ?_
              rintro e w6 ⟨a6, o6, rfl, ha6, hr6, hp6, hm6⟩
              simp only []
              exact ⟨rfl, a6, o6, rfl, by omega, hr6, hp6, (HMV.out.trans hm5).trans ((Mv.of_ext (Ext.refl _).drew).trans hm6)⟩
            | ok tb r2 =>
              rw [hB, PR.bind_ok] at hres
              have HB := Lib.hid hB
              have HRES := Lib.hid hres
              clear hB hres
              go_upto_region 7 with (first | (go_at_call 74; refine (HMU.out).mono ?_; rintro e w5 ⟨v5, a5, rfl, rfl, ha5, hr5, hp5, hm5⟩; have HR5 := Lib.hid hr5; have HP5 := Lib.hid hp5; clear hr5 hp5))
              have hlt5 : a' < a5 := drop_at (by rw [← HLEN.out]; exact HP5.out.at_) (HR1.out.symm.trans HR5.out)
              have hE5 := hE w5.drew b A N c toks a5 (o + 1) 1 (HP5.out.ext (Ext.refl _).drew) ho11 (by omega) (by omega) (by have := HP5.out.at_; omega)
              rw [← HR5.out, HB.out] at hE5
              have HE5 := Lib.hid hE5
              have HNX5 := Lib.hid (HNX.out.mv hm5 (by omega))
              have HKR5 := Lib.hid (HKR.out.mv hm5 (by rw [HG2.out] at hbg2; omega))
              have HG25 := Lib.hid (HG2X.out.mv hm5 (by omega))
              have e3 := HNX5.out.nb.c3
              have hk5 : hs.length ≤ 100 := by have := HHL.out; omega
              clear hE5 hlen
              have hbs : b < W.heap.size + 1 := by rw [HG2.out] at hbg2; omega
              have h5s : W.heap.size + 1 ≤ w5.heap.size := by have := lt_of_block HNX5.out; have := HG2.out; omega
              have hg35 : g3 < w5.heap.size := lt_of_block HNX5.out
              go_region_law (first
                | (go_simp; go_at_call 87; refine (HE5.out).mono ?_; rintro e w6 ⟨v2, a6, rfl, ⟨d2, rfl, hrep⟩, ha6, hr6, hp6, hm6⟩; have hm56 : Mv b w5 w6 := (Mv.of_ext (Ext.refl _).drew).trans hm6; obtain ⟨A7, c7, w7, hrun, hkr7, hbel, hkeep, hsz7, hown7⟩ := KR.append (HKR5.out.mv hm56 hbs) (W := w5) (fun k hk => (HKR5.out.lt k hk).2) hg35 d2 tb hrep h5s hm56.size hk5 w6.heap.size rfl; rw [HHL.out] at hrun hkr7 hown7; have HNX6 := Lib.hid (HNX5.out.mv hm56 (by omega)); have e3a := HNX6.out.nb.c3; have e3b := (NX.mv (b := b) HNX6.out (Mv.of_ext ((Ext.refl _).alloc (.cells #[.int .i64 d2.k, .int .i64 d2.n, .string d2.s, .slice d2.A d2.m d2.c] 31))) (by omega)).nb.c3; have HRUN := Lib.hid hrun; have HKR7 := Lib.hid hkr7; have HNX7 := Lib.hid (show NX w7 g3 9 0 ⟨#[]⟩ (.slice A3 (k + 1) c3) from (hkeep g3 (lt_of_block HNX6.out) HKR5.out.2.2.1).trans HNX6.out); have e37 := HNX7.out.nb.c3; have f37 := HNX7.out.nb.f3; have HKEEP := Lib.hid hkeep; have HBEL := Lib.hid hbel; have HR6 := Lib.hid hr6; have HP6 := Lib.hid hp6; have HSZ7 := Lib.hid hsz7; have HOWN7 := Lib.hid hown7; clear hrep hkr7 hrun hkeep hbel hr6 hp6 hsz7 hown7; simp only [])
                | (refine step_append_run (s := .tmp 22) (x := .tmp 25) HRUN.out rfl rfl rfl rfl rfl ?_))
              all_goals
                go_wp2
                have hmW := (HMV.out.trans hm5).trans hm56
                have hown : ∀ k9, (Value.slice A3 (k + 1) c3).ownBlock = some k9 → W.heap.size + 1 ≤ k9 := fun k9 e => (HKR5.out.lt k9 e).1
                have hm7 := hmW.grow HP.out.lt (Nat.le_succ _) HBEL.out HKEEP.out hown HSZ7.out
                have hg3W : W.heap.size ≤ g3 := by have := HG2.out; omega
                have hp7 : PB w7 b A N c toks a6 (o + 1) := HP6.out.keep W.heap.size HP.out.lt HP.out.lts (fun k9 h9 => HKEEP.out k9 (Nat.lt_of_lt_of_le h9 hmW.size) (fun e => by have := hown k9 e; omega))
                have hnx8 : NX (w7.setCell ⟨g3, 3, none⟩ (.slice A7 (k + 1 + 1) c7)) g3 9 0 ⟨#[]⟩ (.slice A7 (k + 1 + 1) c7) := (heap_setCell_same w7 g3 3 _ 31 _ HNX7.out).trans rfl
                have hgb : gs ≠ b := by omega
                have hgs5 : gs < w6.heap.size := Nat.lt_of_lt_of_le hgs (hm5.trans hm56).size
                have hg2W : g2 < W.heap.size + 1 := by have := HG2.out; omega
                refine ⟨⟨k + 1, a6, A7, c7, hs ++ [d2], ts ++ [tb], by omega, by simp, by omega, by simp [HHL.out], HP.out.setNew hp7 (p := ⟨g3, 3, none⟩) hg3W _, hnx8, HKR7.out.keep (by simp) (fun k9 h1 h2 h3 => heap_setCell_other w7 _ k9 _ h2), fun j hj => ?_, ?_, ?_, ?_, hm7.setNew (p := ⟨g3, 3, none⟩) hg3W _, fun e => ?_⟩, by simp only [toM]; omega⟩
                · rw [World.cell?_of_block (a := ⟨gs, j, none⟩) ((heap_setCell_other w7 ⟨g3, 3, none⟩ gs _ (by simp only; omega)).trans ((HKEEP.out gs hgs5 HNE4.out).trans ((hm5.trans hm56).keep gs hgb hgs)))]
                  exact HSTR.out j hj
                · simp; exact Nat.lt_of_lt_of_le hgs5 HSZ7.out
                · exact (heap_setCell_other w7 ⟨g3, 3, none⟩ g2 _ (by simp only; omega)).trans ((HKEEP.out g2 (by have := lt_of_block HG25.out; have := hm56.size; omega) (fun e => by have := hown g2 e; omega)).trans (HG25.out.mv hm56 (by omega)))
                · rw [← HR6.out]; exact HRES.out
                · rcases HOWN7.out gs e with h1 | h1
                  · exact HNE4.out h1
                  · omega
        · have hkI : ¬ (k : Int) < 2 := by omega
          obtain rfl : k = 2 := by omega
          have hres2 : (mustP wEnd (toks.drop a')).bind (fun _ r => PR.ok (.nd 9 0 [] ts) r) = RES := hres
          have HCL := Lib.hid (pcloses_any HPB.out ho wEnd ⟨#[101, 110, 100]⟩ rfl (by decide))
          clear hres
          cases hM : mustP wEnd (toks.drop a') with
          | bad r er =>
            rw [hM] at HCL
            rw [hM, PR.bind_bad] at hres2
            subst hres2
            clear hM hlen
            go_wp2_with (first | (go_at_call 159; refine (HCL.out).mono ?_; rintro e w5 ⟨a5, o5, rfl, ha5, hr5, hp5, hm5⟩; have HR5 := Lib.hid hr5; clear hr5))
            exact ⟨rfl, a5, o5, rfl, by omega, HR5.out, hp5, HMV.out.trans hm5⟩
          | ok u r1 =>
            rw [hM] at HCL
            rw [hM, PR.bind_ok] at hres2
            subst hres2
            clear hM hlen
            go_upto_region 10 with (first | (go_at_call 159; refine (HCL.out).mono ?_; rintro e w5 ⟨v5, a5, rfl, rfl, ha5, hr5, hp5, hm5⟩; have HR5 := Lib.hid hr5; have HP5 := Lib.hid hp5; clear hr5 hp5))
            have hbs : b < W.heap.size + 1 := by rw [HG2.out] at hbg2; omega
            have HKR5 := Lib.hid (HKR.out.mv hm5 hbs)
            obtain ⟨_, e0, e1, e2, e3, _, _, _, _⟩ := (HNX.out.mv hm5 (by omega)).nb
            have h2x := (HG2X.out.mv hm5 (by omega)).nb
            rw [HG2.out] at h2x
            obtain ⟨_, d0, d1, d2, d3, f0, f1, f2, f3⟩ := h2x
            go_wp2
            refine bodyPost_ret (v := .agg #[.int .i64 9, .int .i64 0, .string ⟨#[]⟩, .slice A3 3 c3]) (by simp [results, Tryz.results160, go_sem, *]) rfl ?_
            have hg2W : W.heap.size ≤ W.heap.size := Nat.le_refl _
            have hkr := HKR5.out.keep (W' := (((w5.setCell ⟨W.heap.size, 0, none⟩ (.int .i64 9)).setCell ⟨W.heap.size, 1, none⟩ (.int .i64 0)).setCell ⟨W.heap.size, 2, none⟩ (.string ⟨#[]⟩)).setCell ⟨W.heap.size, 3, none⟩ (.slice A3 3 c3)) (by simp) (fun k9 h1 _ _ => by
              rw [heap_setCell_other _ _ _ _ (by simp only; omega), heap_setCell_other _ _ _ _ (by simp only; omega), heap_setCell_other _ _ _ _ (by simp only; omega), heap_setCell_other _ _ _ _ (by simp only; omega)])
            obtain ⟨A9, c9, e9, hrep⟩ := hkr.rep 9 0 []
            have hl9 := HHL.out
            rw [hl9] at e9 hrep
            injection e9 with e9 _ e9'
            subst e9 e9'
            exact ⟨_, a5, rfl, ⟨⟨9, 0, ⟨#[]⟩, A3, 3, c3⟩, rfl, hrep.mono fun k9 h9 _ => by omega⟩, by omega, HR5.out,
              HP.out.setNew (HP.out.setNew (HP.out.setNew (HP.out.setNew HP5.out (p := ⟨W.heap.size, 0, none⟩) hg2W _) (p := ⟨W.heap.size, 1, none⟩) hg2W _) (p := ⟨W.heap.size, 2, none⟩) hg2W _) (p := ⟨W.heap.size, 3, none⟩) hg2W _,
              ((((HMV.out.trans hm5).setNew (p := ⟨W.heap.size, 0, none⟩) hg2W _).setNew (p := ⟨W.heap.size, 1, none⟩) hg2W _).setNew (p := ⟨W.heap.size, 2, none⟩) hg2W _).setNew (p := ⟨W.heap.size, 3, none⟩) hg2W _⟩
end Go.Proofs.YtnpenepdechkjaaGreatDoor

/- The production's call. -/
namespace Go.Proofs.YtnpenepdechkjaaGreatDoor
open Go Go.RowKit

/-- What is left of a call's reading: m arguments, of which ts have been read before. -/
def caR (E : Nat → Nat → List Tk → PR Tr) (o : Nat) (s : List UInt8) : Nat → List Tr → List Tk → PR Tr
  | 0, ts, r => (mustP wClose r).bind fun _ r => .ok (.nd 10 0 s ts) r
  | m + 1, ts, r => (if ts.length = 0 then PR.ok () r else mustP wComma r).bind fun _ r => (E 1 (o + 1) r).bind fun b r => caR E o s m (ts ++ [b]) r
theorem call_ca (E : Nat → Nat → List Tk → PR Tr) (o : Nat) (r : List Tk) : callP E o r = (tokP 1 r).bind fun t r => (opensP wOpen o r).bind fun _ r => caR E o t.tx (argsN t.tx) [] r := by
  have h : ∀ s r, (E 1 (o + 1) r).bind (fun a r => if argsN s = 1 then (mustP wClose r).bind fun _ r => PR.ok (.nd 10 0 s [a]) r else (mustP wComma r).bind fun _ r => (E 1 (o + 1) r).bind fun b r => (mustP wClose r).bind fun _ r => .ok (.nd 10 0 s [a, b]) r) = caR E o s (argsN s) [] r := fun s r => by
    unfold argsN
    split
    · simp only [if_true, caR, List.length_nil, PR.bind_ok, List.nil_append]
    · simp only [show ¬ (2 = 1) by decide, if_false, if_true, caR, List.length_nil, PR.bind_ok, List.nil_append, List.length_cons, show ¬ (0 + 1 = 0) by decide, List.cons_append]
  unfold callP
  simp only [h]
theorem argsN_le (s : List UInt8) : argsN s ≤ 2 := by unfold argsN; split <;> omega
theorem tok_ok {k : Int} {r r1 : List Tk} {t : Tk} (h : tokP k r = .ok t r1) : r1 = r.tail ∧ t = hd r ∧ (hd r).kd = k := by
  unfold tokP at h
  split at h
  · injection h with h1 h2; exact ⟨h2.symm, h1.symm, by assumption⟩
  · cases h
def CaRel (W : World) (b : Nat) (A : Option Addr) (N c : Nat) (toks : List Tk) (a o : Nat) (E : Nat → Nat → List Tk → PR Tr) (s : List UInt8) (S : ByteArray) (n : Nat) (RES : PR Tr) (g2 g3 : Nat) (s14 : Value) (X : World) : Prop :=
  ∃ (k a' : Nat) (A3 : Option Addr) (c3 : Nat) (hs : List Nd) (ts : List Tr), k ≤ n ∧ s14 = .int .i64 k ∧ a < a' ∧ hs.length = k ∧ PB X b A N c toks a' (o + 1) ∧ NX X g3 10 0 S (.slice A3 k c3) ∧ KR X (W.heap.size + 1) g3 (.slice A3 k c3) hs ts ∧
    NX X g2 0 0 ⟨#[]⟩ (.slice none 0 0) ∧ caR E o s (n - k) ts (toks.drop a') = RES ∧ Mv b W X
set_option maxHeartbeats 4000000 in
set_option maxRecDepth 100000 in
theorem pcall_any {E : Nat → Nat → List Tk → PR Tr} {M : Nat} (hE : EC E M) {W : World} {b : Nat} {A : Option Addr} {N c : Nat} {toks : List Tk} {a o : Nat} (h : PB W b A N c toks a o) (ho : o ≤ 12) (hM : 9 * (N - a) ≤ M) :
    Calls Tryz.prog 161 #[.pointer (some ⟨b, 0, none⟩)] W (GP b A N c toks a o (RT W.heap.size) W (callP E o (toks.drop a))) := by
  have HP := Lib.hid h
  have HLEN := Lib.hid h.len
  have hx0 : Ext W (W.alloc (.cells #[.int .i64 0, .int .i64 0, .string ⟨#[]⟩, .slice none 0 0] 31)) := (Ext.refl W).alloc _
  have HX0 := Lib.hid hx0
  have hfd := fieldTx
  rw [call_ca]
  have hNa : a < N := h.at_
  cases hT : tokP 1 (toks.drop a) with
  | bad r er =>
    have hk : (hd (toks.drop a)).kd ≠ 1 := fun e => by unfold tokP at hT; rw [if_pos e] at hT; cases hT
    have her : r = toks.drop a ∧ er = 20 := by
      unfold tokP at hT; rw [if_neg hk] at hT
      injection hT with h1 h2
      exact ⟨h1.symm, h2.symm⟩
    obtain ⟨rfl, rfl⟩ := her
    have HO := Lib.hid (fun X (hX : Ext W X) => ptok_no (h.ext hX) 1 hk)
    rw [PR.bind_bad]
    clear h hx0 hT hk
    go_enter Tryz.func161, Tryz.ntmps161
    go_wp2_with (first | (go_at_call 76; refine (HO.out _ HX0.out).mono ?_; rintro e w1 ⟨rfl, hx1⟩))
    exact ⟨rfl, a, o, rfl, Nat.le_refl _, rfl, HP.out.ext (HX0.out.trans hx1), Mv.of_ext (HX0.out.trans hx1)⟩
  | ok t r1 =>
    obtain ⟨hr1, ht, hk⟩ := tok_ok hT
    have htl := (hd_mem h).2.2
    rw [htl] at hr1
    subst hr1
    have HO := Lib.hid (fun X (hX : Ext W X) => ptok_yes (h.ext hX) 1 (by decide) t ht.symm (by rw [ht]; exact hk))
    rw [PR.bind_ok]
    obtain ⟨n, hn⟩ : ∃ n, n = argsN t.tx := ⟨_, rfl⟩
    have hn2 := argsN_le t.tx
    obtain ⟨S, hS⟩ : ∃ S, S = bs t.tx := ⟨_, rfl⟩
    have HAR := Lib.hid (fun X => pargs_any t.tx S hS X)
    have HS := Lib.hid hS
    rw [← hn] at hn2 HAR ⊢
    rw [← hS] at HO
    generalize t.tx = s at *
    cases hO : opensP wOpen o (toks.drop (a + 1)) with
    | bad r er =>
      rw [PR.bind_bad]
      have HOO := Lib.hid hO
      clear h hx0 hT hk ht htl hO hS hn
      go_enter Tryz.func161, Tryz.ntmps161
      go_wp2_with (first
        | (go_at_call 76; refine (HO.out _ HX0.out).mono ?_; rintro e w1 ⟨rfl, hp1, hm1⟩; have HP1 := Lib.hid hp1; clear hp1)
        | (go_at_call 127; have h9 := popens_any (HP1.out.ext ((Ext.refl _).alloc (.cells #[.int .i64 10, .int .i64 0, .string S, .slice none 0 0] 31))) ho wOpen ⟨#[40]⟩ rfl (by decide); rw [HOO.out] at h9; refine h9.mono ?_; clear h9; rintro e w2 ⟨a2, o2, rfl, ha2, hr2, hp2, hm2⟩; have HR2 := Lib.hid hr2; clear hr2))
      exact ⟨rfl, a2, o2, rfl, by omega, HR2.out, hp2, (((Mv.of_ext HX0.out).trans hm1).trans (Mv.of_ext ((Ext.refl _).alloc _))).trans hm2⟩
    | ok u r2 =>
      rw [PR.bind_ok]
      have HOO := Lib.hid hO
      have ho11 : o + 1 ≤ 12 := by have := (opens_ok hO).2.1; omega
      obtain ⟨RES, hRES⟩ : ∃ R, R = caR E o s n [] r2 := ⟨_, rfl⟩
      have HRS := Lib.hid hRES
      rw [← hRES]
      clear h hx0 hT hk ht htl hO hS hn hRES
      go_enter Tryz.func161, Tryz.ntmps161
      go_upto_region 3 with (first
        | (go_at_call 76; refine (HO.out _ HX0.out).mono ?_; rintro e w1 ⟨rfl, hp1, hm1⟩; have HP1 := Lib.hid hp1; clear hp1)
        | (go_at_call 127; have h9 := popens_any (HP1.out.ext ((Ext.refl _).alloc (.cells #[.int .i64 10, .int .i64 0, .string S, .slice none 0 0] 31))) ho wOpen ⟨#[40]⟩ rfl (by decide); rw [HOO.out] at h9; refine h9.mono ?_; clear h9; rintro e w2 ⟨v2, a2, rfl, rfl, ha2, hr2, hp2, hm2⟩; have HR2 := Lib.hid hr2; clear hr2))
      have hbW : b < W.heap.size := HP.out.lt
      have h1s : W.heap.size + 1 ≤ w1.heap.size := by have := hm1.size; simpa using this
      have hmv := (((Mv.of_ext HX0.out).trans hm1).trans (Mv.of_ext ((Ext.refl _).alloc (.cells #[.int .i64 10, .int .i64 0, .string S, .slice none 0 0] 31)))).trans hm2
      have hg2 : NX w2 W.heap.size 0 0 ⟨#[]⟩ (.slice none 0 0) := NX.mv (show NX (W.alloc (.cells #[.int .i64 0, .int .i64 0, .string ⟨#[]⟩, .slice none 0 0] 31)) W.heap.size 0 0 ⟨#[]⟩ (.slice none 0 0) from heap_alloc_new _ _) ((hm1.trans (Mv.of_ext ((Ext.refl _).alloc _))).trans hm2) (by omega)
      have hg3 : NX w2 w1.heap.size 10 0 S (.slice none 0 0) := NX.mv (show NX (w1.alloc (.cells #[.int .i64 10, .int .i64 0, .string S, .slice none 0 0] 31)) w1.heap.size 10 0 S (.slice none 0 0) from heap_alloc_new _ _) hm2 (by omega)
      have e2 := hg3.nb.c2
      obtain ⟨g3, hg3e⟩ : ∃ g, g = w1.heap.size := ⟨_, rfl⟩
      obtain ⟨g2, hg2e⟩ : ∃ g, g = W.heap.size := ⟨_, rfl⟩
      rw [← hg3e] at hg3 e2 h1s ⊢
      have hstart : ∀ X, Ext w2 X → CaRel W b A N c toks a o E s S n RES g2 g3 (.int .i64 0) X := fun X hX =>
        ⟨0, a2, none, 0, [], [], by omega, rfl, by omega, rfl, hp2.ext hX, hg3.mv (Mv.of_ext hX : Mv b _ _) (by omega), KR.nil X _ _, by rw [hg2e]; exact hg2.mv (Mv.of_ext hX : Mv b _ _) (by omega), by rw [HRS.out, HR2.out]; rfl, hmv.trans (Mv.of_ext hX)⟩
      have HST := Lib.hid hstart
      have HG2 := Lib.hid hg2e
      have hbg2 : b < g2 := by omega
      have hg23 : g2 < g3 := by omega
      clear hstart hg2e hg3e hg3 hg2 hmv h1s hp2 hm2 HR2 HOO HRS hm1 HP1 HO HX0 hbW
      go_wp2_with (first | (go_at_call 181; refine (HAR.out _).mono ?_; rintro e w3 ⟨rfl, hx3⟩))
      go_loopw [4, 14] (fun _ s14 X => CaRel W b A N c toks a o E s S n RES g2 g3 s14 X) (fun _ s14 _ => toM 3 s14)
      case atStart => exact HST.out _ hx3
      case round =>
        clear HST HAR e2 hx3
        obtain ⟨k, a', A3, c3, hs, ts, hk2, rfl, haa, hhl, hpb, hnx, hkr, hg2x, hres, hmv⟩ := hrel
        have HPB := Lib.hid hpb
        have HNX := Lib.hid hnx
        have HKR := Lib.hid hkr
        have HG2X := Lib.hid hg2x
        have HMV := Lib.hid hmv
        have HHL := Lib.hid hhl
        have hlen := HLEN.out
        clear hpb hnx hkr hg2x hmv hhl
        by_cases hk : k < n
        · have hkI : (k : Int) < (n : Int) := by omega
          have hnk : n - k = (n - (k + 1)) + 1 := by omega
          rw [hnk, caR, ← HKR.out.2.1, HHL.out] at hres
          by_cases hk0 : k = 0
          · rw [if_pos hk0, PR.bind_ok] at hres
            subst hk0
            cases hB : E 1 (o + 1) (toks.drop a') with
            | bad r er =>
              rw [hB, PR.bind_bad] at hres
              have HB := Lib.hid hB
              subst hres
              clear hB
              go_upto_region 8 with (fail)
              have HR5 := Lib.hid (show toks.drop a' = toks.drop a' from rfl)
              obtain ⟨w5, hw5⟩ : ∃ w5, w5 = wr := ⟨_, rfl⟩
              have hm5 : Mv b wr w5 := by rw [hw5]; exact Mv.refl b wr
              have HP5 := Lib.hid (show PB w5 b A N c toks a' (o + 1) from by rw [hw5]; exact HPB.out)
              rw [← hw5]
              obtain ⟨a5, ha5e⟩ : ∃ a5, a5 = a' := ⟨_, rfl⟩
              have hlt5 : a < a5 := by omega
              rw [← ha5e] at HP5
              have HR5 := Lib.hid (show toks.drop a' = toks.drop a5 from by rw [ha5e])
              clear hw5 ha5e
              have hE5 := hE w5.drew b A N c toks a5 (o + 1) 1 (HP5.out.ext (Ext.refl _).drew) ho11 (by omega) (by omega) (by have := HP5.out.at_; omega)
              rw [← HR5.out, HB.out] at hE5
              have HE5 := Lib.hid hE5
              have HNX5 := Lib.hid (HNX.out.mv hm5 (by omega))
              have e3 := HNX5.out.nb.c3
              clear hE5 hlen
              refine wp_region_E (fun _ => True) (fun X => X.cell? ⟨g3, 3, none⟩ = some (.slice A3 0 c3)) (fun _ => true) (by kernel_rfl) ?_
              have hT0 : w5.drew.cell? ⟨g3, 3, none⟩ = some (.slice A3 0 c3) := e3
              refine wpE_takeT (i := 0) (d := some 21) (v := .pointer (some ⟨g3, 3, none⟩)) rfl rfl (by kernel_rfl) (by kernel_rfl) (by kernel_rfl) rfl (fun _ _ _ h => h) (by rfl) ?hy0a hT0 ?go0a
              case hy0a =>
                intro w9 hT9
                clear e3
                go_simp
              (try simp only [Act.put, List.setIfInBounds_toArray, List.set_cons_zero, List.set_cons_succ])
              refine wpE_takeT (i := 1) (d := some 22) (v := .slice A3 0 c3) rfl rfl (by kernel_rfl) (by kernel_rfl) (by kernel_rfl) rfl (fun _ _ _ h => h) (by rfl) ?hy1a hT0 ?go1a
              case hy1a =>
                intro w9 hT9
                clear e3
                go_simp
              (try simp only [Act.put, List.setIfInBounds_toArray, List.set_cons_zero, List.set_cons_succ])
              refine wpE_takeT (i := 2) (d := some 23) (v := .pointer (some ⟨b, 0, none⟩)) rfl rfl (by kernel_rfl) (by kernel_rfl) (by kernel_rfl) rfl (fun _ _ _ h => h) (by rfl) ?hy2a hT0 ?go2a
              case hy2a =>
                intro w9 hT9
                clear e3
                go_simp
              (try simp only [Act.put, List.setIfInBounds_toArray, List.set_cons_zero, List.set_cons_succ])
              refine wpE_all (rs := [3]) (by kernel_rfl) (by simp) ?_
              refine AllE.cons rfl (fun K hK => ?_) AllE.nil
              simp only [List.getElem_toArray, List.getElem_cons_succ, List.getElem_cons_zero]
              go_simp
              go_at_call 87
              refine (HE5.out).mono ?_
              rintro e w6 ⟨a6, o6, rfl, ha6, hr6, hp6, hm6⟩
              simp only []
              exact ⟨rfl, a6, o6, rfl, by omega, hr6, hp6, (HMV.out.trans hm5).trans ((Mv.of_ext (Ext.refl _).drew).trans hm6)⟩
            | ok tb r2 =>
              rw [hB, PR.bind_ok] at hres
              have HB := Lib.hid hB
              have HRES := Lib.hid hres
              clear hB hres
              go_upto_region 8 with (fail)
              have HR5 := Lib.hid (show toks.drop a' = toks.drop a' from rfl)
              obtain ⟨w5, hw5⟩ : ∃ w5, w5 = wr := ⟨_, rfl⟩
              have hm5 : Mv b wr w5 := by rw [hw5]; exact Mv.refl b wr
              have HP5 := Lib.hid (show PB w5 b A N c toks a' (o + 1) from by rw [hw5]; exact HPB.out)
              rw [← hw5]
              obtain ⟨a5, ha5e⟩ : ∃ a5, a5 = a' := ⟨_, rfl⟩
              have hlt5 : a < a5 := by omega
              rw [← ha5e] at HP5
              have HR5 := Lib.hid (show toks.drop a' = toks.drop a5 from by rw [ha5e])
              clear hw5 ha5e
              have hE5 := hE w5.drew b A N c toks a5 (o + 1) 1 (HP5.out.ext (Ext.refl _).drew) ho11 (by omega) (by omega) (by have := HP5.out.at_; omega)
              rw [← HR5.out, HB.out] at hE5
              have HE5 := Lib.hid hE5
              have HNX5 := Lib.hid (HNX.out.mv hm5 (by omega))
              have e3 := HNX5.out.nb.c3
              have HKR5 := Lib.hid (HKR.out.mv hm5 (by rw [HG2.out] at hbg2; omega))
              have HG25 := Lib.hid (HG2X.out.mv hm5 (by omega))
              have hk5 : hs.length ≤ 100 := by have := HHL.out; omega
              clear hE5 hlen
              have hbs : b < W.heap.size + 1 := by rw [HG2.out] at hbg2; omega
              have h5s : W.heap.size + 1 ≤ w5.heap.size := by have := lt_of_block HNX5.out; have := HG2.out; omega
              have hg35 : g3 < w5.heap.size := lt_of_block HNX5.out
              go_region_law (first
                | (go_simp; go_at_call 87; refine (HE5.out).mono ?_; rintro e w6 ⟨v2, a6, rfl, ⟨d2, rfl, hrep⟩, ha6, hr6, hp6, hm6⟩; have hm56 : Mv b w5 w6 := (Mv.of_ext (Ext.refl _).drew).trans hm6; obtain ⟨A7, c7, w7, hrun, hkr7, hbel, hkeep, hsz7, hown7⟩ := KR.append (HKR5.out.mv hm56 hbs) (W := w5) (fun k hk => (HKR5.out.lt k hk).2) hg35 d2 tb hrep h5s hm56.size hk5 w6.heap.size rfl; rw [HHL.out] at hrun hkr7 hown7; have HNX6 := Lib.hid (HNX5.out.mv hm56 (by omega)); have e3a := HNX6.out.nb.c3; have e3b := (NX.mv (b := b) HNX6.out (Mv.of_ext ((Ext.refl _).alloc (.cells #[.int .i64 d2.k, .int .i64 d2.n, .string d2.s, .slice d2.A d2.m d2.c] 31))) (by omega)).nb.c3; have HRUN := Lib.hid hrun; have HKR7 := Lib.hid hkr7; have HNX7 := Lib.hid (show NX w7 g3 10 0 S (.slice A3 0 c3) from (hkeep g3 (lt_of_block HNX6.out) HKR5.out.2.2.1).trans HNX6.out); have e37 := HNX7.out.nb.c3; have f37 := HNX7.out.nb.f3; have HKEEP := Lib.hid hkeep; have HBEL := Lib.hid hbel; have HR6 := Lib.hid hr6; have HP6 := Lib.hid hp6; have HSZ7 := Lib.hid hsz7; have HOWN7 := Lib.hid hown7; clear hrep hkr7 hrun hkeep hbel hr6 hp6 hsz7 hown7; simp only [])
                | (refine step_append_run (s := .tmp 22) (x := .tmp 25) HRUN.out rfl rfl rfl rfl rfl ?_))
              all_goals
                go_wp2
                have hmW := (HMV.out.trans hm5).trans hm56
                have hown : ∀ k9, (Value.slice A3 0 c3).ownBlock = some k9 → W.heap.size + 1 ≤ k9 := fun k9 e => (HKR5.out.lt k9 e).1
                have hm7 := hmW.grow HP.out.lt (Nat.le_succ _) HBEL.out HKEEP.out hown HSZ7.out
                have hg3W : W.heap.size ≤ g3 := by have := HG2.out; omega
                have hp7 : PB w7 b A N c toks a6 (o + 1) := HP6.out.keep W.heap.size HP.out.lt HP.out.lts (fun k9 h9 => HKEEP.out k9 (Nat.lt_of_lt_of_le h9 hmW.size) (fun e => by have := hown k9 e; omega))
                have hnx8 : NX (w7.setCell ⟨g3, 3, none⟩ (.slice A7 (0 + 1) c7)) g3 10 0 S (.slice A7 (0 + 1) c7) := (heap_setCell_same w7 g3 3 _ 31 _ HNX7.out).trans rfl
                refine ⟨⟨0 + 1, a6, A7, c7, hs ++ [d2], ts ++ [tb], by omega, by simp, by omega, by simp [HHL.out], HP.out.setNew hp7 (p := ⟨g3, 3, none⟩) hg3W _, hnx8, HKR7.out.keep (by simp) (fun k9 h1 h2 h3 => heap_setCell_other w7 _ k9 _ h2), ?_, ?_, hm7.setNew (p := ⟨g3, 3, none⟩) hg3W _⟩, by first | (simp only [toM]; omega) | (simp [toM])⟩
                · have hg2W : g2 < W.heap.size + 1 := by have := HG2.out; omega
                  exact (heap_setCell_other w7 ⟨g3, 3, none⟩ g2 _ (by simp only; omega)).trans ((HKEEP.out g2 (by have := lt_of_block HG25.out; have := hm56.size; omega) (fun e => by have := hown g2 e; omega)).trans (HG25.out.mv hm56 (by omega)))
                · rw [← HR6.out]; exact HRES.out
          · rw [if_neg hk0] at hres
            have hk0I : 0 < (k : Int) := by omega
            have HMU := Lib.hid (pmust_any HPB.out wComma ⟨#[44]⟩ rfl (by decide))
            cases hM : mustP wComma (toks.drop a') with
            | bad r er =>
              rw [hM] at HMU
              rw [hM, PR.bind_bad] at hres
              subst hres
              clear hM hlen
              go_wp2_with (first | (go_at_call 74; refine (HMU.out).mono ?_; rintro e w5 ⟨a5, o5, rfl, ha5, hr5, hp5, hm5⟩; have HR5 := Lib.hid hr5; clear hr5))
              exact ⟨rfl, a5, o5, rfl, by omega, HR5.out, hp5, HMV.out.trans hm5⟩
            | ok u r1 =>
              rw [hM] at HMU
              rw [hM, PR.bind_ok] at hres
              have HR1 := Lib.hid (must_ok hM)
              clear hM
              cases hB : E 1 (o + 1) r1 with
              | bad r er =>
                rw [hB, PR.bind_bad] at hres
                have HB := Lib.hid hB
                subst hres
                clear hB
                go_upto_region 8 with (first | (go_at_call 74; refine (HMU.out).mono ?_; rintro e w5 ⟨v5, a5, rfl, rfl, ha5, hr5, hp5, hm5⟩; have HR5 := Lib.hid hr5; have HP5 := Lib.hid hp5; clear hr5 hp5))
                have hlt5 : a < a5 := by have := drop_at (by rw [← HLEN.out]; exact HP5.out.at_) (HR1.out.symm.trans HR5.out); omega
                have hE5 := hE w5.drew b A N c toks a5 (o + 1) 1 (HP5.out.ext (Ext.refl _).drew) ho11 (by omega) (by omega) (by have := HP5.out.at_; omega)
                rw [← HR5.out, HB.out] at hE5
                have HE5 := Lib.hid hE5
                have HNX5 := Lib.hid (HNX.out.mv hm5 (by omega))
                have e3 := HNX5.out.nb.c3
                clear hE5 hlen
                refine wp_region_E (fun _ => True) (fun X => X.cell? ⟨g3, 3, none⟩ = some (.slice A3 k c3)) (fun _ => true) (by kernel_rfl) ?_
                have hT0 : w5.drew.cell? ⟨g3, 3, none⟩ = some (.slice A3 k c3) := e3
                refine wpE_takeT (i := 0) (d := some 21) (v := .pointer (some ⟨g3, 3, none⟩)) rfl rfl (by kernel_rfl) (by kernel_rfl) (by kernel_rfl) rfl (fun _ _ _ h => h) (by rfl) ?hy0b hT0 ?go0b
                case hy0b =>
                  intro w9 hT9
                  clear e3
                  go_simp
                (try simp only [Act.put, List.setIfInBounds_toArray, List.set_cons_zero, List.set_cons_succ])
                refine wpE_takeT (i := 1) (d := some 22) (v := .slice A3 k c3) rfl rfl (by kernel_rfl) (by kernel_rfl) (by kernel_rfl) rfl (fun _ _ _ h => h) (by rfl) ?hy1b hT0 ?go1b
                case hy1b =>
                  intro w9 hT9
                  clear e3
                  go_simp
                (try simp only [Act.put, List.setIfInBounds_toArray, List.set_cons_zero, List.set_cons_succ])
                refine wpE_takeT (i := 2) (d := some 23) (v := .pointer (some ⟨b, 0, none⟩)) rfl rfl (by kernel_rfl) (by kernel_rfl) (by kernel_rfl) rfl (fun _ _ _ h => h) (by rfl) ?hy2b hT0 ?go2b
                case hy2b =>
                  intro w9 hT9
                  clear e3
                  go_simp
                (try simp only [Act.put, List.setIfInBounds_toArray, List.set_cons_zero, List.set_cons_succ])
                refine wpE_all (rs := [3]) (by kernel_rfl) (by simp) ?_
                refine AllE.cons rfl (fun K hK => ?_) AllE.nil
                simp only [List.getElem_toArray, List.getElem_cons_succ, List.getElem_cons_zero]
                go_simp
                go_at_call 87
                refine (HE5.out).mono ?_
                rintro e w6 ⟨a6, o6, rfl, ha6, hr6, hp6, hm6⟩
                simp only []
                exact ⟨rfl, a6, o6, rfl, by omega, hr6, hp6, (HMV.out.trans hm5).trans ((Mv.of_ext (Ext.refl _).drew).trans hm6)⟩
              | ok tb r2 =>
                rw [hB, PR.bind_ok] at hres
                have HB := Lib.hid hB
                have HRES := Lib.hid hres
                clear hB hres
                go_upto_region 8 with (first | (go_at_call 74; refine (HMU.out).mono ?_; rintro e w5 ⟨v5, a5, rfl, rfl, ha5, hr5, hp5, hm5⟩; have HR5 := Lib.hid hr5; have HP5 := Lib.hid hp5; clear hr5 hp5))
                have hlt5 : a < a5 := by have := drop_at (by rw [← HLEN.out]; exact HP5.out.at_) (HR1.out.symm.trans HR5.out); omega
                have hE5 := hE w5.drew b A N c toks a5 (o + 1) 1 (HP5.out.ext (Ext.refl _).drew) ho11 (by omega) (by omega) (by have := HP5.out.at_; omega)
                rw [← HR5.out, HB.out] at hE5
                have HE5 := Lib.hid hE5
                have HNX5 := Lib.hid (HNX.out.mv hm5 (by omega))
                have e3 := HNX5.out.nb.c3
                have HKR5 := Lib.hid (HKR.out.mv hm5 (by rw [HG2.out] at hbg2; omega))
                have HG25 := Lib.hid (HG2X.out.mv hm5 (by omega))
                have hk5 : hs.length ≤ 100 := by have := HHL.out; omega
                clear hE5 hlen
                have hbs : b < W.heap.size + 1 := by rw [HG2.out] at hbg2; omega
                have h5s : W.heap.size + 1 ≤ w5.heap.size := by have := lt_of_block HNX5.out; have := HG2.out; omega
                have hg35 : g3 < w5.heap.size := lt_of_block HNX5.out
                go_region_law (first
                  | (go_simp; go_at_call 87; refine (HE5.out).mono ?_; rintro e w6 ⟨v2, a6, rfl, ⟨d2, rfl, hrep⟩, ha6, hr6, hp6, hm6⟩; have hm56 : Mv b w5 w6 := (Mv.of_ext (Ext.refl _).drew).trans hm6; obtain ⟨A7, c7, w7, hrun, hkr7, hbel, hkeep, hsz7, hown7⟩ := KR.append (HKR5.out.mv hm56 hbs) (W := w5) (fun k hk => (HKR5.out.lt k hk).2) hg35 d2 tb hrep h5s hm56.size hk5 w6.heap.size rfl; rw [HHL.out] at hrun hkr7 hown7; have HNX6 := Lib.hid (HNX5.out.mv hm56 (by omega)); have e3a := HNX6.out.nb.c3; have e3b := (NX.mv (b := b) HNX6.out (Mv.of_ext ((Ext.refl _).alloc (.cells #[.int .i64 d2.k, .int .i64 d2.n, .string d2.s, .slice d2.A d2.m d2.c] 31))) (by omega)).nb.c3; have HRUN := Lib.hid hrun; have HKR7 := Lib.hid hkr7; have HNX7 := Lib.hid (show NX w7 g3 10 0 S (.slice A3 k c3) from (hkeep g3 (lt_of_block HNX6.out) HKR5.out.2.2.1).trans HNX6.out); have e37 := HNX7.out.nb.c3; have f37 := HNX7.out.nb.f3; have HKEEP := Lib.hid hkeep; have HBEL := Lib.hid hbel; have HR6 := Lib.hid hr6; have HP6 := Lib.hid hp6; have HSZ7 := Lib.hid hsz7; have HOWN7 := Lib.hid hown7; clear hrep hkr7 hrun hkeep hbel hr6 hp6 hsz7 hown7; simp only [])
                  | (refine step_append_run (s := .tmp 22) (x := .tmp 25) HRUN.out rfl rfl rfl rfl rfl ?_))
                all_goals
                  go_wp2
                  have hmW := (HMV.out.trans hm5).trans hm56
                  have hown : ∀ k9, (Value.slice A3 k c3).ownBlock = some k9 → W.heap.size + 1 ≤ k9 := fun k9 e => (HKR5.out.lt k9 e).1
                  have hm7 := hmW.grow HP.out.lt (Nat.le_succ _) HBEL.out HKEEP.out hown HSZ7.out
                  have hg3W : W.heap.size ≤ g3 := by have := HG2.out; omega
                  have hp7 : PB w7 b A N c toks a6 (o + 1) := HP6.out.keep W.heap.size HP.out.lt HP.out.lts (fun k9 h9 => HKEEP.out k9 (Nat.lt_of_lt_of_le h9 hmW.size) (fun e => by have := hown k9 e; omega))
                  have hnx8 : NX (w7.setCell ⟨g3, 3, none⟩ (.slice A7 (k + 1) c7)) g3 10 0 S (.slice A7 (k + 1) c7) := (heap_setCell_same w7 g3 3 _ 31 _ HNX7.out).trans rfl
                  refine ⟨⟨k + 1, a6, A7, c7, hs ++ [d2], ts ++ [tb], by omega, by simp, by omega, by simp [HHL.out], HP.out.setNew hp7 (p := ⟨g3, 3, none⟩) hg3W _, hnx8, HKR7.out.keep (by simp) (fun k9 h1 h2 h3 => heap_setCell_other w7 _ k9 _ h2), ?_, ?_, hm7.setNew (p := ⟨g3, 3, none⟩) hg3W _⟩, by first | (simp only [toM]; omega) | (simp [toM])⟩
                  · have hg2W : g2 < W.heap.size + 1 := by have := HG2.out; omega
                    exact (heap_setCell_other w7 ⟨g3, 3, none⟩ g2 _ (by simp only; omega)).trans ((HKEEP.out g2 (by have := lt_of_block HG25.out; have := hm56.size; omega) (fun e => by have := hown g2 e; omega)).trans (HG25.out.mv hm56 (by omega)))
                  · rw [← HR6.out]; exact HRES.out
        · have hkI : ¬ (k : Int) < (n : Int) := by omega
          obtain rfl : k = n := by omega
          have hres2 : (mustP wClose (toks.drop a')).bind (fun _ r => PR.ok (.nd 10 0 s ts) r) = RES := by rw [Nat.sub_self] at hres; exact hres
          have HCL := Lib.hid (pcloses_any HPB.out ho wClose ⟨#[41]⟩ rfl (by decide))
          clear hres
          cases hM : mustP wClose (toks.drop a') with
          | bad r er =>
            rw [hM] at HCL
            rw [hM, PR.bind_bad] at hres2
            subst hres2
            clear hM hlen
            go_wp2_with (first | (go_at_call 159; refine (HCL.out).mono ?_; rintro e w5 ⟨a5, o5, rfl, ha5, hr5, hp5, hm5⟩; have HR5 := Lib.hid hr5; clear hr5))
            exact ⟨rfl, a5, o5, rfl, by omega, HR5.out, hp5, HMV.out.trans hm5⟩
          | ok u r1 =>
            rw [hM] at HCL
            rw [hM, PR.bind_ok] at hres2
            subst hres2
            clear hM hlen
            go_upto_region 11 with (first | (go_at_call 159; refine (HCL.out).mono ?_; rintro e w5 ⟨v5, a5, rfl, rfl, ha5, hr5, hp5, hm5⟩; have HR5 := Lib.hid hr5; have HP5 := Lib.hid hp5; clear hr5 hp5))
            have hbs : b < W.heap.size + 1 := by rw [HG2.out] at hbg2; omega
            have HKR5 := Lib.hid (HKR.out.mv hm5 hbs)
            obtain ⟨_, e0, e1, e2, e3, _, _, _, _⟩ := (HNX.out.mv hm5 (by omega)).nb
            have h2x := (HG2X.out.mv hm5 (by omega)).nb
            rw [HG2.out] at h2x
            obtain ⟨_, d0, d1, d2, d3, f0, f1, f2, f3⟩ := h2x
            go_wp2
            refine bodyPost_ret (v := .agg #[.int .i64 10, .int .i64 0, .string S, .slice A3 k c3]) (by simp [results, Tryz.results161, go_sem, *]) rfl ?_
            have hg2W : W.heap.size ≤ W.heap.size := Nat.le_refl _
            have hkr := HKR5.out.keep (W' := (((w5.setCell ⟨W.heap.size, 0, none⟩ (.int .i64 10)).setCell ⟨W.heap.size, 1, none⟩ (.int .i64 0)).setCell ⟨W.heap.size, 2, none⟩ (.string S)).setCell ⟨W.heap.size, 3, none⟩ (.slice A3 k c3)) (by simp) (fun k9 h1 _ _ => by
              rw [heap_setCell_other _ _ _ _ (by simp only; omega), heap_setCell_other _ _ _ _ (by simp only; omega), heap_setCell_other _ _ _ _ (by simp only; omega), heap_setCell_other _ _ _ _ (by simp only; omega)])
            obtain ⟨A9, c9, e9, hrep⟩ := hkr.rep 10 0 s
            have hl9 := HHL.out
            rw [hl9] at e9 hrep
            injection e9 with e9 _ e9'
            subst e9 e9'
            exact ⟨_, a5, rfl, ⟨⟨10, 0, bs s, A3, k, c3⟩, by rw [HS.out], hrep.mono fun k9 h9 _ => by omega⟩, by omega, HR5.out,
              HP.out.setNew (HP.out.setNew (HP.out.setNew (HP.out.setNew HP5.out (p := ⟨W.heap.size, 0, none⟩) hg2W _) (p := ⟨W.heap.size, 1, none⟩) hg2W _) (p := ⟨W.heap.size, 2, none⟩) hg2W _) (p := ⟨W.heap.size, 3, none⟩) hg2W _,
              ((((HMV.out.trans hm5).setNew (p := ⟨W.heap.size, 0, none⟩) hg2W _).setNew (p := ⟨W.heap.size, 1, none⟩) hg2W _).setNew (p := ⟨W.heap.size, 2, none⟩) hg2W _).setNew (p := ⟨W.heap.size, 3, none⟩) hg2W _⟩
end Go.Proofs.YtnpenepdechkjaaGreatDoor

/- The production's primary. -/
namespace Go.Proofs.YtnpenepdechkjaaGreatDoor
open Go Go.RowKit

/-- A node is written to the result's block. -/
def fin4 (X : World) (g : Nat) (v0 v1 v2 v3 : Value) : World := (((X.setCell ⟨g, 0, none⟩ v0).setCell ⟨g, 1, none⟩ v1).setCell ⟨g, 2, none⟩ v2).setCell ⟨g, 3, none⟩ v3
theorem PB.fin {W X : World} {b : Nat} {A : Option Addr} {N c : Nat} {toks : List Tk} {a o a0 o0 : Nat} (h0 : PB W b A N c toks a0 o0) (h : PB X b A N c toks a o) (v0 v1 v2 v3 : Value) : PB (fin4 X W.heap.size v0 v1 v2 v3) b A N c toks a o :=
  h0.setNew (h0.setNew (h0.setNew (h0.setNew h (p := ⟨W.heap.size, 0, none⟩) (Nat.le_refl _) _) (p := ⟨W.heap.size, 1, none⟩) (Nat.le_refl _) _) (p := ⟨W.heap.size, 2, none⟩) (Nat.le_refl _) _) (p := ⟨W.heap.size, 3, none⟩) (Nat.le_refl _) _
theorem Mv.fin {W X : World} {b : Nat} (h : Mv b W X) (v0 v1 v2 v3 : Value) : Mv b W (fin4 X W.heap.size v0 v1 v2 v3) :=
  (((h.setNew (p := ⟨W.heap.size, 0, none⟩) (Nat.le_refl _) _).setNew (p := ⟨W.heap.size, 1, none⟩) (Nat.le_refl _) _).setNew (p := ⟨W.heap.size, 2, none⟩) (Nat.le_refl _) _).setNew (p := ⟨W.heap.size, 3, none⟩) (Nat.le_refl _) _
theorem Rep.fin {X : World} {g : Nat} {d : Nd} {t : Tr} {n : Nat} (h : Rep X (fun k => n ≤ k) d t) (hg : g < n) (v0 v1 v2 v3 : Value) : Rep (fin4 X g v0 v1 v2 v3) (fun k => g ≤ k) d t :=
  (h.keep (W' := fin4 X g v0 v1 v2 v3) (by simp [fin4]) (fun k h1 _ => by
    unfold fin4
    rw [heap_setCell_other _ _ _ _ (by simp only; omega), heap_setCell_other _ _ _ _ (by simp only; omega), heap_setCell_other _ _ _ _ (by simp only; omega), heap_setCell_other _ _ _ _ (by simp only; omega)])).mono fun k h1 _ => by omega
set_option maxHeartbeats 8000000 in
set_option maxRecDepth 100000 in
theorem pprim_any {E : Nat → Nat → List Tk → PR Tr} {M : Nat} (hE : EC E M) {W : World} {b : Nat} {A : Option Addr} {N c : Nat} {toks : List Tk} {a o : Nat} (h : PB W b A N c toks a o) (ho : o ≤ 12) (hM : 9 * (N - a) ≤ M) :
    Calls Tryz.prog 128 #[.pointer (some ⟨b, 0, none⟩)] W (GP b A N c toks a o (RT W.heap.size) W (primP E o (toks.drop a))) := by
  have HP := Lib.hid h
  have HLEN := Lib.hid h.len
  have hNa : a < N := h.at_
  obtain ⟨g, off, t, rfl, _, hmem, h4, htl, k0, k1, k2, k3⟩ := h.tk
  have h32 := h.tx32
  have hgo : t.kd ≠ 0 → a + 1 < N := fun hk => h.go (by rw [h4]; exact hk)
  have htx0 : t.tx ≠ [] → t.kd ≠ 0 := fun hx => h.wf.kd0 hmem hx
  have HGO := Lib.hid hgo
  have HTX0 := Lib.hid htx0
  have hlt := h.lt
  rw [h4] at h32
  obtain ⟨RES, hres⟩ : ∃ R, primP E o (toks.drop a) = R := ⟨_, rfl⟩
  have HH4 := Lib.hid h4
  rw [hres]
  unfold primP at hres
  rw [h4, htl] at hres
  obtain ⟨kd, at_, tx, nm⟩ := t
  simp only at k0 k1 k2 k3 h32 hgo htx0 hres
  have HRES := Lib.hid hres
  obtain ⟨S, hS⟩ : ∃ S, S = bs tx := ⟨_, rfl⟩
  have k2 : W.cell? ⟨g, off + (a * 4 + 2), none⟩ = some (.string S) := by rw [hS]; exact k2
  rw [← Nat.add_assoc] at k1 k2 k3
  have hg : g < W.heap.size := block_lt_of_cell k0
  have HX := Lib.hid ((Ext.refl W).alloc (.cells #[.int .i64 0, .int .i64 0, .string ⟨#[]⟩, .slice none 0 0] 31))
  have c0 := (HP.out.ext HX.out).c0
  have c1 := (HP.out.ext HX.out).c1
  have e0 := (HX.out.cells.1 g (off + a * 4) hg).trans k0
  have e1 := (HX.out.cells.1 g (off + a * 4 + 1) hg).trans k1
  have e2 := (HX.out.cells.1 g (off + a * 4 + 2) hg).trans k2
  have e3 := (HX.out.cells.1 g (off + a * 4 + 3) hg).trans k3
  have haI : (a : Int) < (N : Int) := by omega
  have haJ : (a : Int) ≤ 100000 := by have := h.nb; omega
  have HSE := Lib.hid hS
  clear h h4 htl k0 k1 k2 k3 hS hgo htx0 hmem hres
  go_enter Tryz.func128, Tryz.ntmps128
  go_upto_region 1 with (fail)
  have hlt1 : b < (W.alloc (.cells #[.int .i64 0, .int .i64 0, .string ⟨#[]⟩, .slice none 0 0] 31)).heap.size := (HP.out.ext HX.out).lt
  have hg1 : g < (W.alloc (.cells #[.int .i64 0, .int .i64 0, .string ⟨#[]⟩, .slice none 0 0] 31)).heap.size := Nat.lt_of_lt_of_le hg HX.out.lt
  have hn2 : NX (W.alloc (.cells #[.int .i64 0, .int .i64 0, .string ⟨#[]⟩, .slice none 0 0] 31)) W.heap.size 0 0 ⟨#[]⟩ (.slice none 0 0) := heap_alloc_new _ _
  have HS1 := Lib.hid (show (W.alloc (.cells #[.int .i64 0, .int .i64 0, .string ⟨#[]⟩, .slice none 0 0] 31)).heap.size = W.heap.size + 1 by simp)
  generalize W.alloc (.cells #[.int .i64 0, .int .i64 0, .string ⟨#[]⟩, .slice none 0 0] 31) = w1 at *
  go_cut [3] (fun s3 wx => s3 = .pointer (some ⟨w1.heap.size, 0, none⟩) ∧ wx = w1.drew.alloc (.cells #[.int .i64 kd, .int .i64 at_, .string S, .int .i64 nm] 46))
  case first =>
    go_region
    all_goals
      go_wp2
      go_meet
      case rel => exact ⟨rfl, rfl⟩
  case rest =>
    obtain ⟨rfl, hwc⟩ := hcut
    have hx5 : Ext w1 wc := by rw [hwc]; exact (Ext.refl _).drew.alloc _
    have q5 : TBox wc w1.heap.size kd at_ S nm := by rw [hwc]; exact TBox.new w1.drew kd at_ nm S 46
    have HP5 := Lib.hid ((HP.out.ext HX.out).ext hx5)
    have HYtnpenepdechkjaaGreatDoor := Lib.hid (HX.out.trans hx5)
    have HN2 := Lib.hid (NX.mv (b := b) hn2 (Mv.of_ext hx5) (by omega))
    clear hwc hx5 c0 c1 e0 e1 e2 e3 HX hlt1 hg1 hn2
    obtain ⟨g3, hg3⟩ : ∃ g3, g3 = w1.heap.size := ⟨_, rfl⟩
    have hs1 : g3 = W.heap.size + 1 := hg3.trans HS1.out
    rw [← hg3] at q5 ⊢
    clear hg3 HS1
    have HQ5 := Lib.hid q5
    obtain ⟨_, d0, d1, d2, d3, _, _, _, _⟩ := q5
    obtain ⟨_, z0, z1, z2, z3, f0, f1, f2, f3⟩ := HN2.out.nb
    have HPX := Lib.hid (fun X (hX : Ext wc X) => HP5.out.ext hX)
    have p1 := HP5.out.c1
    have pf1 := HP5.out.fz 1
    have hb2 : ¬ b = W.heap.size := by omega
    have hb3 : ¬ b = g3 := by omega
    have h23 : ¬ W.heap.size = g3 := by omega
    have HTA := Lib.hid (fun X (hX : Ext wc X) (s : List UInt8) (T : ByteArray) (hT : T = bs s) (hx : tx ≠ s) => ptake_no (HP5.out.ext hX) s T hT (by rw [HH4.out]; exact hx))
    have HTY := Lib.hid (fun X (hX : Ext wc X) (s : List UInt8) (T : ByteArray) (hT : T = bs s) (hs : s ≠ []) (hx : tx = s) => ptake_yes (HP5.out.ext hX) s T hT hs (by rw [HH4.out]; exact hx))
    have HWI := Lib.hid (fun X (hX : Ext wc X) (ws : List (List UInt8)) (hws : WL ws) (hj : (Jw ws).length ≤ 1000) (v : Bool) (hv : v = decide (tx ≠ [] ∧ tx ∈ ws)) L (hL : L = bs (Jw ws)) => pwithin_any L S ws tx hL hj HSE.out h32.1 h32.2 hws v hv X (HP5.out.ext hX).ml)
    have hmW := Mv.of_ext (b := b) HYtnpenepdechkjaaGreatDoor.out
    have hres := HRES.out
    have HS1 := Lib.hid hs1
    clear HRES hs1
    by_cases hk2 : kd = 2
    · rw [if_pos hk2] at hres
      subst hk2
      subst hres
      have hgo1 := HGO.out (show (2 : Int) ≠ 0 by decide)
      have hp1 := HP5.out.set1 (a + 1) hgo1
      rw [show (((a + 1 : Nat) : Int)) = (a : Int) + 1 by omega] at hp1
      clear HGO HTX0 HTA HTY HWI h32
      go_wp2
      refine bodyPost_ret (v := .agg #[.int .i64 1, .int .i64 nm, .string ⟨#[]⟩, .slice none 0 0]) (by simp [results, Tryz.results128, go_sem, *]) rfl ?_
      exact ⟨_, a + 1, rfl, ⟨⟨1, nm, ⟨#[]⟩, none, 0, 0⟩, rfl, Rep.leaf _ _ 1 nm []⟩, by omega, rfl, HP.out.fin hp1 _ _ _ _, (hmW.trans (Mv.set _)).fin _ _ _ _⟩
    rw [if_neg hk2] at hres
    have nk2 : (kd == 2) = false := by simpa using hk2
    by_cases hk3 : kd = 3
    · rw [if_pos hk3] at hres
      subst hk3
      subst hres
      have hgo1 := HGO.out (show (3 : Int) ≠ 0 by decide)
      have hp1 := HP5.out.set1 (a + 1) hgo1
      rw [show (((a + 1 : Nat) : Int)) = (a : Int) + 1 by omega] at hp1
      clear HGO HTX0 HTA HTY HWI h32
      go_wp2
      refine bodyPost_ret (v := .agg #[.int .i64 3, .int .i64 nm, .string ⟨#[]⟩, .slice none 0 0]) (by simp [results, Tryz.results128, go_sem, *]) rfl ?_
      exact ⟨_, a + 1, rfl, ⟨⟨3, nm, ⟨#[]⟩, none, 0, 0⟩, rfl, Rep.leaf _ _ 3 nm []⟩, by omega, rfl, HP.out.fin hp1 _ _ _ _, (hmW.trans (Mv.set _)).fin _ _ _ _⟩
    rw [if_neg hk3] at hres
    have nk3 : (kd == 3) = false := by simpa using hk3
    by_cases ht0 : tx = wTrue
    · rw [if_pos ht0] at hres
      have HY := Lib.hid (fun X (hX : Ext wc X) => HTY.out X hX wTrue ⟨#[116, 114, 117, 101]⟩ rfl (by decide) ht0)
      subst hres
      clear HGO HTX0 HTA HTY HWI h32 ht0
      go_upto_region 9 with (first | (go_at_call 117; refine (HY.out _ (Ext.refl _)).mono ?_; rintro e w9 ⟨rfl, hp9, hm9⟩))
      have HP9 := Lib.hid hp9
      have hm5 : Mv b wc w9 := hm9
      obtain ⟨_, z0, z1, z2, z3, f0, f1, f2, f3⟩ := (HN2.out.mv hm5 (by omega)).nb
      clear hp9
      go_wp2
      refine bodyPost_ret (v := .agg #[.int .i64 2, .int .i64 1, .string ⟨#[]⟩, .slice none 0 0]) (by simp [results, Tryz.results128, go_sem, *]) rfl ?_
      exact ⟨_, a + 1, rfl, ⟨⟨2, 1, ⟨#[]⟩, none, 0, 0⟩, rfl, Rep.leaf _ _ 2 1 []⟩, by omega, rfl, HP.out.fin HP9.out _ _ _ _, (hmW.trans hm5).fin _ _ _ _⟩
    rw [if_neg ht0] at hres
    have HNO0 := Lib.hid (fun X (hX : Ext wc X) => HTA.out X hX wTrue ⟨#[116, 114, 117, 101]⟩ rfl ht0)
    by_cases ht1 : tx = wFalse
    · rw [if_pos ht1] at hres
      have HY := Lib.hid (fun X (hX : Ext wc X) => HTY.out X hX wFalse ⟨#[102, 97, 108, 115, 101]⟩ rfl (by decide) ht1)
      subst hres
      clear HGO HTX0 HTA HTY HWI h32 ht1
      go_upto_region 11 with (first | (have hg := hx6; clear hg; go_at_call 117; refine (HY.out _ hx6).mono ?_; rintro e w9 ⟨rfl, hp9, hm9⟩) | (go_at_call 117; refine (HNO0.out _ (Ext.refl _)).mono ?_; rintro e w6 ⟨rfl, hx6⟩))
      have HP9 := Lib.hid hp9
      have hm5 : Mv b wc w9 := (Mv.of_ext hx6).trans hm9
      obtain ⟨_, z0, z1, z2, z3, f0, f1, f2, f3⟩ := (HN2.out.mv hm5 (by omega)).nb
      clear hp9
      go_wp2
      refine bodyPost_ret (v := .agg #[.int .i64 2, .int .i64 0, .string ⟨#[]⟩, .slice none 0 0]) (by simp [results, Tryz.results128, go_sem, *]) rfl ?_
      exact ⟨_, a + 1, rfl, ⟨⟨2, 0, ⟨#[]⟩, none, 0, 0⟩, rfl, Rep.leaf _ _ 2 0 []⟩, by omega, rfl, HP.out.fin HP9.out _ _ _ _, (hmW.trans hm5).fin _ _ _ _⟩
    rw [if_neg ht1] at hres
    have HNO1 := Lib.hid (fun X (hX : Ext wc X) => HTA.out X hX wFalse ⟨#[102, 97, 108, 115, 101]⟩ rfl ht1)
    by_cases hop : tx = wOpen
    · rw [if_pos hop] at hres
      have hb : (S.toList == [40]) = true := by rw [HSE.out, bs_list, hop]; decide
      have HO := Lib.hid (fun X (hX : Ext wc X) => popens_any (HP5.out.ext hX) ho wOpen ⟨#[40]⟩ rfl (by decide))
      cases hO : opensP wOpen o (toks.drop a) with
      | bad rr er =>
        rw [hO] at HO
        rw [hO, PR.bind_bad] at hres
        subst hres
        clear HGO HTX0 HTA HTY HWI h32 hop hO
        go_upto_region 12 with (first | (have hg := hx6; clear hg; go_at_call 117; refine (HNO1.out _ hx6).mono ?_; rintro e w7 ⟨rfl, hx67⟩; have hx7 := hx6.trans hx67; clear hx67) | (go_at_call 117; refine (HNO0.out _ (Ext.refl _)).mono ?_; rintro e w6 ⟨rfl, hx6⟩))
        have HX7 := Lib.hid hx7
        clear d0 d1 d2 d3 z0 z1 z2 z3 f0 f1 f2 f3 p1 pf1
        obtain ⟨_, y0, y1, y2, y3, yf0, yf1, yf2, yf3⟩ := (NX.mv (b := b) HN2.out (Mv.of_ext hx7) (by omega)).nb
        obtain ⟨_, t0, t1, t2, t3, _, _, _, _⟩ := HQ5.out.ext hx7
        go_wp2_with (first | (go_at_call 127; refine (HO.out _ HX7.out).mono ?_; rintro e w8 ⟨a8, o8, rfl, ha8, hr8, hp8, hm8⟩; have HR8 := Lib.hid hr8; clear hr8))
        exact ⟨rfl, a8, o8, rfl, ha8, HR8.out, hp8, (hmW.trans (Mv.of_ext HX7.out)).trans hm8⟩
      | ok u r1 =>
        rw [hO] at HO
        rw [hO, PR.bind_ok] at hres
        have ho11 : o + 1 ≤ 12 := by have := (opens_ok hO).2.1; omega
        have HO1 := Lib.hid (opens_ok hO).1
        cases hA : E 1 (o + 1) r1 with
        | bad rr er =>
          have HA := Lib.hid hA
          rw [hA, PR.bind_bad] at hres
          subst hres
          clear HGO HTX0 HTA HTY HWI h32 hop hO hA
          go_upto_region 12 with (first | (have hg := hx6; clear hg; go_at_call 117; refine (HNO1.out _ hx6).mono ?_; rintro e w7 ⟨rfl, hx67⟩; have hx7 := hx6.trans hx67; clear hx67) | (go_at_call 117; refine (HNO0.out _ (Ext.refl _)).mono ?_; rintro e w6 ⟨rfl, hx6⟩))
          have HX7 := Lib.hid hx7
          clear d0 d1 d2 d3 z0 z1 z2 z3 f0 f1 f2 f3 p1 pf1
          obtain ⟨_, y0, y1, y2, y3, yf0, yf1, yf2, yf3⟩ := (NX.mv (b := b) HN2.out (Mv.of_ext hx7) (by omega)).nb
          obtain ⟨_, t0, t1, t2, t3, _, _, _, _⟩ := HQ5.out.ext hx7
          go_wp2_with (first
            | (go_at_call 127; refine (HO.out _ HX7.out).mono ?_; rintro e w8 ⟨v8, a8, rfl, rfl, ha8, hr8, hp8, hm8⟩; have HR8 := Lib.hid hr8; have HP8 := Lib.hid hp8; clear hr8 hp8)
            | (go_at_call 87; have h9 := hE w8 b (some ⟨g, off, none⟩) N c toks a8 (o + 1) 1 HP8.out ho11 (by omega) (by omega) (by have := drop_at (by rw [← HLEN.out]; exact HP8.out.at_) (HO1.out.symm.trans HR8.out); omega); rw [← HR8.out, HA.out] at h9; refine h9.mono ?_; clear h9; rintro e w9 ⟨a9, o9, rfl, ha9, hr9, hp9, hm9⟩; have HR9 := Lib.hid hr9; clear hr9))
          exact ⟨rfl, a9, o9, rfl, by omega, HR9.out, hp9, ((hmW.trans (Mv.of_ext HX7.out)).trans hm8).trans hm9⟩
        | ok ta r2 =>
          have HA := Lib.hid hA
          rw [hA, PR.bind_ok] at hres
          cases hC : mustP wClose r2 with
          | bad rr er =>
            have HC := Lib.hid hC
            rw [hC, PR.bind_bad] at hres
            subst hres
            clear HGO HTX0 HTA HTY HWI h32 hop hO hA hC
            go_upto_region 12 with (first | (have hg := hx6; clear hg; go_at_call 117; refine (HNO1.out _ hx6).mono ?_; rintro e w7 ⟨rfl, hx67⟩; have hx7 := hx6.trans hx67; clear hx67) | (go_at_call 117; refine (HNO0.out _ (Ext.refl _)).mono ?_; rintro e w6 ⟨rfl, hx6⟩))
            have HX7 := Lib.hid hx7
            clear d0 d1 d2 d3 z0 z1 z2 z3 f0 f1 f2 f3 p1 pf1
            obtain ⟨_, y0, y1, y2, y3, yf0, yf1, yf2, yf3⟩ := (NX.mv (b := b) HN2.out (Mv.of_ext hx7) (by omega)).nb
            obtain ⟨_, t0, t1, t2, t3, _, _, _, _⟩ := HQ5.out.ext hx7
            go_wp2_with (first
              | (go_at_call 127; refine (HO.out _ HX7.out).mono ?_; rintro e w8 ⟨v8, a8, rfl, rfl, ha8, hr8, hp8, hm8⟩; have HR8 := Lib.hid hr8; have HP8 := Lib.hid hp8; clear hr8 hp8)
              | (go_at_call 87; have h9 := hE w8 b (some ⟨g, off, none⟩) N c toks a8 (o + 1) 1 HP8.out ho11 (by omega) (by omega) (by have := drop_at (by rw [← HLEN.out]; exact HP8.out.at_) (HO1.out.symm.trans HR8.out); omega); rw [← HR8.out, HA.out] at h9; refine h9.mono ?_; clear h9; rintro e w9 ⟨v9, a9, rfl, ⟨d, rfl, hrep⟩, ha9, hr9, hp9, hm9⟩; have HR9 := Lib.hid hr9; have HP9 := Lib.hid hp9; have HREP := Lib.hid hrep; clear hr9 hp9 hrep)
              | (go_at_call 159; have h9 := pcloses_any (HP9.out.ext ((Ext.refl _).alloc (.cells #[.int .i64 d.k, .int .i64 d.n, .string d.s, .slice d.A d.m d.c] 31))) ho wClose ⟨#[41]⟩ rfl (by decide); rw [← HR9.out, HC.out] at h9; refine h9.mono ?_; clear h9; rintro e w10 ⟨a10, o10, rfl, ha10, hr10, hp10, hm10⟩; have HR10 := Lib.hid hr10; clear hr10))
            exact ⟨rfl, a10, o10, rfl, by omega, HR10.out, hp10, ((((hmW.trans (Mv.of_ext HX7.out)).trans hm8).trans hm9).trans (Mv.of_ext ((Ext.refl _).alloc _))).trans hm10⟩
          | ok u2 r3 =>
            have HC := Lib.hid hC
            rw [hC, PR.bind_ok] at hres
            subst hres
            clear HGO HTX0 HTA HTY HWI h32 hop hO hA hC
            go_upto_region 12 with (first | (have hg := hx6; clear hg; go_at_call 117; refine (HNO1.out _ hx6).mono ?_; rintro e w7 ⟨rfl, hx67⟩; have hx7 := hx6.trans hx67; clear hx67) | (go_at_call 117; refine (HNO0.out _ (Ext.refl _)).mono ?_; rintro e w6 ⟨rfl, hx6⟩))
            have HX7 := Lib.hid hx7
            clear d0 d1 d2 d3 z0 z1 z2 z3 f0 f1 f2 f3 p1 pf1
            obtain ⟨_, y0, y1, y2, y3, yf0, yf1, yf2, yf3⟩ := (NX.mv (b := b) HN2.out (Mv.of_ext hx7) (by omega)).nb
            obtain ⟨_, t0, t1, t2, t3, _, _, _, _⟩ := HQ5.out.ext hx7
            go_upto_region 16 with (first
              | (go_at_call 127; refine (HO.out _ HX7.out).mono ?_; rintro e w8 ⟨v8, a8, rfl, rfl, ha8, hr8, hp8, hm8⟩; have HR8 := Lib.hid hr8; have HP8 := Lib.hid hp8; clear hr8 hp8)
              | (go_at_call 87; have h9 := hE w8 b (some ⟨g, off, none⟩) N c toks a8 (o + 1) 1 HP8.out ho11 (by omega) (by omega) (by have := drop_at (by rw [← HLEN.out]; exact HP8.out.at_) (HO1.out.symm.trans HR8.out); omega); rw [← HR8.out, HA.out] at h9; refine h9.mono ?_; clear h9; rintro e w9 ⟨v9, a9, rfl, ⟨d, rfl, hrep⟩, ha9, hr9, hp9, hm9⟩; have HR9 := Lib.hid hr9; have HP9 := Lib.hid hp9; have HREP := Lib.hid hrep; clear hr9 hp9 hrep)
              | (go_at_call 159; have h9 := pcloses_any (HP9.out.ext ((Ext.refl _).alloc (.cells #[.int .i64 d.k, .int .i64 d.n, .string d.s, .slice d.A d.m d.c] 31))) ho wClose ⟨#[41]⟩ rfl (by decide); rw [← HR9.out, HC.out] at h9; refine h9.mono ?_; clear h9; rintro e w10 ⟨v10, a10, rfl, rfl, ha10, hr10, hp10, hm10⟩; have HR10 := Lib.hid hr10; have HP10 := Lib.hid hp10; clear hr10 hp10))
            have hmx : Mv b w9 (w9.alloc (.cells #[.int .i64 d.k, .int .i64 d.n, .string d.s, .slice d.A d.m d.c] 31)) := Mv.of_ext ((Ext.refl _).alloc _)
            have hs8 : W.heap.size + 1 ≤ w8.heap.size := by have := HN2.out.nb.lt; have := HX7.out.lt; have := hm8.size; omega
            obtain ⟨_, x0, x1, x2, x3, _, _, _, _⟩ := (NX.mv (show NX (w9.alloc (.cells #[.int .i64 d.k, .int .i64 d.n, .string d.s, .slice d.A d.m d.c] 31)) w9.heap.size d.k d.n d.s (.slice d.A d.m d.c) from heap_alloc_new _ _) hm10 (by have := HP9.out.lt; omega)).nb
            obtain ⟨_, j0, j1, j2, j3, jf0, jf1, jf2, jf3⟩ := (HN2.out.mv ((((Mv.of_ext HX7.out).trans hm8).trans hm9).trans (hmx.trans hm10)) (by omega)).nb
            go_wp2
            refine bodyPost_ret (v := .agg #[.int .i64 d.k, .int .i64 d.n, .string d.s, .slice d.A d.m d.c]) (by simp [results, Tryz.results128, go_sem, *]) rfl ?_
            exact ⟨_, a10, rfl, ⟨d, rfl, (((HREP.out.mono (Q := fun k => W.heap.size + 1 ≤ k) (fun k h1 _ => by omega)).mv hmx (fun k h1 => by omega)).mv hm10 (fun k h1 => by omega)).fin (by omega) _ _ _ _⟩, by omega, HR10.out, HP.out.fin HP10.out _ _ _ _, (((((hmW.trans (Mv.of_ext HX7.out)).trans hm8).trans hm9).trans hmx).trans hm10).fin _ _ _ _⟩
    rw [if_neg hop] at hres
    have nop : (S.toList == [40]) = false := by rw [HSE.out, bs_list]; exact beq_eq_false_iff_ne.2 hop
    by_cases hif : tx = wIf
    · rw [if_pos hif] at hres
      have hb : (S.toList == [105, 102]) = true := by rw [HSE.out, bs_list, hif]; decide
      have HCH := Lib.hid (fun X (hX : Ext wc X) => pchoice_any hE (HP5.out.ext hX) ho hM)
      cases hO : choiceP E o (toks.drop a) with
      | bad rr er =>
        rw [hO] at HCH
        rw [hO] at hres
        subst hres
        clear HGO HTX0 HTA HTY HWI h32 hO
        go_upto_region 12 with (first | (have hg := hx6; clear hg; go_at_call 117; refine (HNO1.out _ hx6).mono ?_; rintro e w7 ⟨rfl, hx67⟩; have hx7 := hx6.trans hx67; clear hx67) | (go_at_call 117; refine (HNO0.out _ (Ext.refl _)).mono ?_; rintro e w6 ⟨rfl, hx6⟩))
        have HX7 := Lib.hid hx7
        clear d0 d1 d2 d3 z0 z1 z2 z3 f0 f1 f2 f3 p1 pf1
        obtain ⟨_, y0, y1, y2, y3, yf0, yf1, yf2, yf3⟩ := (NX.mv (b := b) HN2.out (Mv.of_ext hx7) (by omega)).nb
        obtain ⟨_, t0, t1, t2, t3, _, _, _, _⟩ := HQ5.out.ext hx7
        go_wp2_with (first | (go_at_call 160; refine (HCH.out _ HX7.out).mono ?_; rintro e w9 ⟨a9, o9, rfl, ha9, hr9, hp9, hm9⟩; have HR9 := Lib.hid hr9; clear hr9))
        exact ⟨rfl, a9, o9, rfl, ha9, HR9.out, hp9, (hmW.trans (Mv.of_ext HX7.out)).trans hm9⟩
      | ok tt r1 =>
        rw [hO] at HCH
        rw [hO] at hres
        subst hres
        clear HGO HTX0 HTA HTY HWI h32 hO
        go_upto_region 12 with (first | (have hg := hx6; clear hg; go_at_call 117; refine (HNO1.out _ hx6).mono ?_; rintro e w7 ⟨rfl, hx67⟩; have hx7 := hx6.trans hx67; clear hx67) | (go_at_call 117; refine (HNO0.out _ (Ext.refl _)).mono ?_; rintro e w6 ⟨rfl, hx6⟩))
        have HX7 := Lib.hid hx7
        have hs7 := HN2.out.nb.lt
        clear d0 d1 d2 d3 z0 z1 z2 z3 f0 f1 f2 f3 p1 pf1
        obtain ⟨_, y0, y1, y2, y3, yf0, yf1, yf2, yf3⟩ := (NX.mv (b := b) HN2.out (Mv.of_ext hx7) (by omega)).nb
        obtain ⟨_, t0, t1, t2, t3, _, _, _, _⟩ := HQ5.out.ext hx7
        go_wp2_with (first | (go_at_call 160; refine (HCH.out _ HX7.out).mono ?_; rintro e w9 ⟨v9, a9, rfl, ⟨d, rfl, hrep⟩, ha9, hr9, hp9, hm9⟩; have HR9 := Lib.hid hr9; have HP9 := Lib.hid hp9; have HREP := Lib.hid hrep; have hm59 := (Mv.of_ext (b := b) HX7.out).trans hm9; obtain ⟨_, j0, j1, j2, j3, jf0, jf1, jf2, jf3⟩ := (HN2.out.mv hm59 (by omega)).nb; clear hr9 hp9 hrep))
        refine bodyPost_ret (v := .agg #[.int .i64 d.k, .int .i64 d.n, .string d.s, .slice d.A d.m d.c]) (by simp [results, Tryz.results128, go_sem, *]) rfl ?_
        have hsz := (show Ext wc _ from HX7.out).lt
        exact ⟨_, a9, rfl, ⟨d, rfl, (HREP.out.mono (Q := fun k => W.heap.size + 1 ≤ k) (fun k h1 _ => by omega)).fin (by omega) _ _ _ _⟩, ha9, HR9.out, HP.out.fin HP9.out _ _ _ _, (hmW.trans hm59).fin _ _ _ _⟩
    rw [if_neg hif] at hres
    have nif : (S.toList == [105, 102]) = false := by rw [HSE.out, bs_list]; exact beq_eq_false_iff_ne.2 hif
    by_cases hfu : tx ∈ functions
    · rw [if_pos hfu] at hres
      have HW1 := Lib.hid (fun X (hX : Ext wc X) L hL => HWI.out X hX functions wl_functions jw_functions true (decide_eq_true ⟨fun e => by rw [e] at hfu; revert hfu; decide, hfu⟩).symm L hL)
      have HCH := Lib.hid (fun X (hX : Ext wc X) => pcall_any hE (HP5.out.ext hX) ho hM)
      cases hO : callP E o (toks.drop a) with
      | bad rr er =>
        rw [hO] at HCH
        rw [hO] at hres
        subst hres
        clear HGO HTX0 HTA HTY HWI h32 hO
        go_upto_region 12 with (first | (have hg := hx6; clear hg; go_at_call 117; refine (HNO1.out _ hx6).mono ?_; rintro e w7 ⟨rfl, hx67⟩; have hx7 := hx6.trans hx67; clear hx67) | (go_at_call 117; refine (HNO0.out _ (Ext.refl _)).mono ?_; rintro e w6 ⟨rfl, hx6⟩))
        have HX7 := Lib.hid hx7
        clear d0 d1 d2 d3 z0 z1 z2 z3 f0 f1 f2 f3 p1 pf1
        obtain ⟨_, y0, y1, y2, y3, yf0, yf1, yf2, yf3⟩ := (NX.mv (b := b) HN2.out (Mv.of_ext hx7) (by omega)).nb
        obtain ⟨_, t0, t1, t2, t3, _, _, _, _⟩ := HQ5.out.ext hx7
        go_wp2_with (first | (go_at_call 118; refine (HW1.out _ HX7.out _ (by kernel_rfl)).mono ?_; rintro e w8 ⟨rfl, hx8⟩; obtain ⟨_, u0, u1, u2, u3, _, _, _, _⟩ := (HQ5.out.ext HX7.out).ext hx8) | (go_at_call 161; refine (HCH.out _ (HX7.out.trans hx8)).mono ?_; rintro e w9 ⟨a9, o9, rfl, ha9, hr9, hp9, hm9⟩; have HR9 := Lib.hid hr9; clear hr9))
        exact ⟨rfl, a9, o9, rfl, ha9, HR9.out, hp9, (hmW.trans (Mv.of_ext (HX7.out.trans hx8))).trans hm9⟩
      | ok tt r1 =>
        rw [hO] at HCH
        rw [hO] at hres
        subst hres
        clear HGO HTX0 HTA HTY HWI h32 hO
        go_upto_region 12 with (first | (have hg := hx6; clear hg; go_at_call 117; refine (HNO1.out _ hx6).mono ?_; rintro e w7 ⟨rfl, hx67⟩; have hx7 := hx6.trans hx67; clear hx67) | (go_at_call 117; refine (HNO0.out _ (Ext.refl _)).mono ?_; rintro e w6 ⟨rfl, hx6⟩))
        have HX7 := Lib.hid hx7
        have hs7 := HN2.out.nb.lt
        clear d0 d1 d2 d3 z0 z1 z2 z3 f0 f1 f2 f3 p1 pf1
        obtain ⟨_, y0, y1, y2, y3, yf0, yf1, yf2, yf3⟩ := (NX.mv (b := b) HN2.out (Mv.of_ext hx7) (by omega)).nb
        obtain ⟨_, t0, t1, t2, t3, _, _, _, _⟩ := HQ5.out.ext hx7
        go_wp2_with (first | (go_at_call 118; refine (HW1.out _ HX7.out _ (by kernel_rfl)).mono ?_; rintro e w8 ⟨rfl, hx8⟩; obtain ⟨_, u0, u1, u2, u3, _, _, _, _⟩ := (HQ5.out.ext HX7.out).ext hx8) | (go_at_call 161; refine (HCH.out _ (HX7.out.trans hx8)).mono ?_; rintro e w9 ⟨v9, a9, rfl, ⟨d, rfl, hrep⟩, ha9, hr9, hp9, hm9⟩; have HR9 := Lib.hid hr9; have HP9 := Lib.hid hp9; have HREP := Lib.hid hrep; have hm59 := (Mv.of_ext (b := b) (HX7.out.trans hx8)).trans hm9; obtain ⟨_, j0, j1, j2, j3, jf0, jf1, jf2, jf3⟩ := (HN2.out.mv hm59 (by omega)).nb; clear hr9 hp9 hrep))
        refine bodyPost_ret (v := .agg #[.int .i64 d.k, .int .i64 d.n, .string d.s, .slice d.A d.m d.c]) (by simp [results, Tryz.results128, go_sem, *]) rfl ?_
        have hsz := (show Ext wc _ from (HX7.out.trans hx8)).lt
        exact ⟨_, a9, rfl, ⟨d, rfl, (HREP.out.mono (Q := fun k => W.heap.size + 1 ≤ k) (fun k h1 _ => by omega)).fin (by omega) _ _ _ _⟩, ha9, HR9.out, HP.out.fin HP9.out _ _ _ _, (hmW.trans hm59).fin _ _ _ _⟩
    rw [if_neg hfu] at hres
    have HW1 := Lib.hid (fun X (hX : Ext wc X) L hL => HWI.out X hX functions wl_functions jw_functions false (decide_eq_false (fun h9 => hfu h9.2)).symm L hL)
    by_cases hfi : tx ∈ fields
    · rw [if_pos hfi] at hres
      have hne : tx ≠ [] := fun e => by rw [e] at hfi; revert hfi; decide
      have HW2 := Lib.hid (fun X (hX : Ext wc X) L hL => HWI.out X hX fields wl_fields jw_fields true (decide_eq_true ⟨hne, hfi⟩).symm L hL)
      have hgo1 := HGO.out (HTX0.out hne)
      subst hres
      clear HGO HTX0 HTA HTY HWI h32 hfi hne
      go_upto_region 12 with (first | (have hg := hx6; clear hg; go_at_call 117; refine (HNO1.out _ hx6).mono ?_; rintro e w7 ⟨rfl, hx67⟩; have hx7 := hx6.trans hx67; clear hx67) | (go_at_call 117; refine (HNO0.out _ (Ext.refl _)).mono ?_; rintro e w6 ⟨rfl, hx6⟩))
      have HX7 := Lib.hid hx7
      clear d0 d1 d2 d3 z0 z1 z2 z3 f0 f1 f2 f3 p1 pf1
      obtain ⟨_, y0, y1, y2, y3, yf0, yf1, yf2, yf3⟩ := (NX.mv (b := b) HN2.out (Mv.of_ext hx7) (by omega)).nb
      obtain ⟨_, t0, t1, t2, t3, _, _, _, _⟩ := HQ5.out.ext hx7
      go_upto_region 22 with (first
        | (have hg := hx8; clear hg; go_at_call 118; refine (HW2.out _ (HX7.out.trans hx8) _ (by kernel_rfl)).mono ?_; rintro e w9 ⟨rfl, hx9⟩)
        | (go_at_call 118; refine (HW1.out _ HX7.out _ (by kernel_rfl)).mono ?_; rintro e w8 ⟨rfl, hx8⟩; obtain ⟨_, u0, u1, u2, u3, _, _, _, _⟩ := (HQ5.out.ext HX7.out).ext hx8))
      have HX9 := Lib.hid ((HX7.out.trans hx8).trans hx9)
      obtain ⟨_, j0, j1, j2, j3, jf0, jf1, jf2, jf3⟩ := (NX.mv (b := b) HN2.out (Mv.of_ext HX9.out) (by omega)).nb
      obtain ⟨_, s0, s1, s2, s3, _, _, _, _⟩ := HQ5.out.ext HX9.out
      have l1 := (HPX.out _ HX9.out).c1
      have lf1 := (HPX.out _ HX9.out).fz 1
      have hp1 := (HPX.out _ HX9.out).set1 (a + 1) hgo1
      rw [show (((a + 1 : Nat) : Int)) = (a : Int) + 1 by omega] at hp1
      have HP1 := Lib.hid hp1
      clear hx8 hx9 hx7 hx6 hp1
      go_wp2
      refine bodyPost_ret (v := .agg #[.int .i64 4, .int .i64 0, .string S, .slice none 0 0]) (by simp [results, Tryz.results128, go_sem, *]) rfl ?_
      exact ⟨_, a + 1, rfl, ⟨⟨4, 0, bs tx, none, 0, 0⟩, by rw [HSE.out], Rep.leaf _ _ 4 0 tx⟩, by omega, rfl, HP.out.fin HP1.out _ _ _ _, ((hmW.trans (Mv.of_ext HX9.out)).trans (Mv.set _)).fin _ _ _ _⟩
    rw [if_neg hfi] at hres
    have HW2 := Lib.hid (fun X (hX : Ext wc X) L hL => HWI.out X hX fields wl_fields jw_fields false (decide_eq_false (fun h9 => hfi h9.2)).symm L hL)
    have HF := Lib.hid (fun X (hX : Ext wc X) => pfail_any (HP5.out.ext hX) 20)
    subst hres
    clear HGO HTX0 HTA HTY HWI h32 hfi
    go_upto_region 12 with (first | (have hg := hx6; clear hg; go_at_call 117; refine (HNO1.out _ hx6).mono ?_; rintro e w7 ⟨rfl, hx67⟩; have hx7 := hx6.trans hx67; clear hx67) | (go_at_call 117; refine (HNO0.out _ (Ext.refl _)).mono ?_; rintro e w6 ⟨rfl, hx6⟩))
    have HX7 := Lib.hid hx7
    clear d0 d1 d2 d3 z0 z1 z2 z3 f0 f1 f2 f3 p1 pf1
    obtain ⟨_, y0, y1, y2, y3, yf0, yf1, yf2, yf3⟩ := (NX.mv (b := b) HN2.out (Mv.of_ext hx7) (by omega)).nb
    obtain ⟨_, t0, t1, t2, t3, _, _, _, _⟩ := HQ5.out.ext hx7
    go_wp2_with (first
      | (go_at_call 73; refine (HF.out _ ((HX7.out.trans hx8).trans hx9)).mono ?_; rintro e w10 ⟨rfl, hx10⟩)
      | (have hg := hx8; clear hg; go_at_call 118; refine (HW2.out _ (HX7.out.trans hx8) _ (by kernel_rfl)).mono ?_; rintro e w9 ⟨rfl, hx9⟩)
      | (go_at_call 118; refine (HW1.out _ HX7.out _ (by kernel_rfl)).mono ?_; rintro e w8 ⟨rfl, hx8⟩; obtain ⟨_, u0, u1, u2, u3, _, _, _, _⟩ := (HQ5.out.ext HX7.out).ext hx8))
    have hxe := ((HX7.out.trans hx8).trans hx9).trans hx10
    exact ⟨rfl, a, o, rfl, Nat.le_refl _, rfl, HP5.out.ext hxe, hmW.trans (Mv.of_ext hxe)⟩
end Go.Proofs.YtnpenepdechkjaaGreatDoor
