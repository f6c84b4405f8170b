/- The walk of the law LexerLimits. -/
import Derived.Test.YtbmcplnfamgpcaaDoorAr
import Derived.Deep.OwnRows
import Derived.Laws.BytesArg
namespace Go.Proofs.YtbmcplnfamgpcaaDoor
open Go Go.RowKit

/-- A block of n bytes, not frozen. -/
structure Buf (W : World) (g n : Nat) : Prop where
  lt : g < W.heap.size
  cell : ∀ j, j < n → ∃ b : Int, W.cell? ⟨g, j, none⟩ = some (.int .u8 b)
  froz : ∀ j, j < n → W.frozen? ⟨g, j, none⟩ = false
theorem info5 : (Tryd.prog.info? 5).map (fun i => (i.zero, i.size, i.bytes)) = some (some (.int .u8 0), 1, 1) := by kernel_rfl
theorem Buf.new (W : World) (n : Nat) : Buf (W.alloc (.cells (madeCells #[.int .u8 0] n) 5)) W.heap.size n :=
  ⟨by simp, fun j hj => ⟨0, by
    rw [cell_of_row _ W.heap.size _ _ 5 (0, 0) (heap_alloc_new W _)]
    simp [madeCells, hj, Nat.mod_one]⟩, fun j _ => by go_simp⟩
theorem Buf.set {W : World} {g n : Nat} (h : Buf W g n) {i : Nat} (hi : i < n) (v : Int) : Buf (W.setCell ⟨g, i, none⟩ (.int .u8 v)) g n := by
  refine ⟨by simpa using h.lt, fun j hj => ?_, fun j hj => ?_⟩
  · by_cases hji : i = j
    · subst hji
      obtain ⟨b, hb⟩ := h.cell i hi
      exact ⟨v, World.cell?_setCell_same _ _ _ hb⟩
    · obtain ⟨b, hb⟩ := h.cell j hj
      refine ⟨b, ?_⟩
      rw [World.cell?_setCell_other _ _ _ _ (fun e => hji (by injection e))]
      exact hb
  · rw [World.frozen?_setCell]; exact h.froz j hj
theorem Buf.str {W : World} {g n : Nat} (h : Buf W g n) (c : Nat) : ∃ B : ByteArray, B.size = n ∧ (convert 30 9 (.slice (some ⟨g, 0, none⟩) n c)).run Tryd.prog W = .ok (.string B) W := by
  have hall : ∀ j : Nat, ∃ b : Int, j < n → W.cell? ⟨g, j, none⟩ = some (.int .u8 b) := fun j => by
    by_cases hj : j < n
    · obtain ⟨b, hb⟩ := h.cell j hj
      exact ⟨b, fun _ => hb⟩
    · exact ⟨0, fun h => absurd h hj⟩
  obtain ⟨F, hF⟩ := Classical.axiomOfChoice hall
  refine ⟨_, ?_, run_convert_bytes_arg W 30 5 Tryd.underlying30 Tryd.underlying5 g 0 n c ((List.range n).map F) (by simp) (fun i hi => ?_) 9 Tryd.underlying9⟩
  · rw [← list_size]; simp [strOfNums]
  · rw [Nat.zero_add, hF i hi]
    simp [List.getD, hi]
def LmRel (n : Nat) (s7 : Value) : Prop := ∃ i : Nat, i ≤ n ∧ s7 = .int .i64 i
set_option maxHeartbeats 8000000 in
set_option maxRecDepth 100000 in
theorem lawLimits_any (s : ByteArray) (more : Int) (w : World) (hs : s.size ≤ 281474976710656) (hmore : -9223372036854775808 ≤ more ∧ more ≤ 9223372036854775807) (hE : EnvT w) :
    Calls Tryd.prog 4 #[.string s, .int .i64 more] w (BoolPost true w) := by
  have HE := Lib.hid (fun X (hX : Ext w X) => hE.ext hX)
  have HSH := Lib.hid (fun X => short_any s 100 X hs (by omega))
  obtain ⟨k, hk, hk3⟩ := around_nat more 3 (by omega)
  have HAR := Lib.hid (fun X => (show Calls Tryd.prog 18 #[.int .i64 more, .int .i64 3] X (fun e X' => e = .returned (.int .i64 k) ∧ X = X') from by
    have := around_fn more 3 X hmore.1 hmore.2 (by omega) (by omega)
    rw [show arnd more 3 = (k : Int) from hk] at this; exact this))
  clear hE hk hmore
  go_enter Tryd.func4, Tryd.ntmps4
  go_upto_region 2 with (first | (go_at_call 13; refine (HSH.out _).mono ?_; rintro e w1 ⟨X, hX, HX, rfl, rfl⟩))
  obtain ⟨n, hn⟩ : ∃ n : Nat, n + X.size = 3999 + k := ⟨3999 + k - X.size, by omega⟩
  have e1 : (3999 : Int) + (k : Int) - (X.size : Int) = (n : Int) := by omega
  have hmk := run_make_row' 30 5 (.int .u8 0) 1 Tryd.underlying30 info5 rfl .i64 .i64 n (by omega) (by omega) w
  have hn4 : n ≤ 4001 := by omega
  have HN := Lib.hid hn
  clear hn
  go_upto_region 3 with (first | (go_at_call 18; refine (HAR.out _).mono ?_; rintro e w1 ⟨rfl, rfl⟩))
  have HB0 := Lib.hid (Buf.new w n)
  have HX0 := Lib.hid ((Ext.refl w).alloc (.cells (madeCells #[.int .u8 0] n) 5))
  clear hmk e1
  generalize w.alloc (.cells (madeCells #[.int .u8 0] n) 5) = w0 at *
  obtain ⟨g, hg⟩ : ∃ g, g = w.heap.size := ⟨_, rfl⟩
  rw [← hg] at HB0 ⊢
  have HG := Lib.hid hg
  clear hg
  go_upto_region 4 with (fail)
  go_loopw [7] (fun s7 w' => LmRel n s7 ∧ Buf w' g n ∧ Ext w w') (fun s7 _ => tokM' n s7)
  case atStart => exact ⟨⟨0, by omega, rfl⟩, HB0.out, HX0.out⟩
  case round =>
    obtain ⟨⟨i, hi, rfl⟩, hb, hxr⟩ := hrel
    have HB := Lib.hid hb
    have HXR := Lib.hid hxr
    clear hxr hb
    by_cases hin : i < n
    · have hinI : (i : Int) < (n : Int) := by omega
      obtain ⟨b0, c0⟩ := HB.out.cell i hin
      have f0 := HB.out.froz i hin
      have HF := Lib.hid (HB.out.set hin 32)
      go_wp2
      exact ⟨⟨⟨i + 1, by omega, rfl⟩, HF.out, HXR.out.setCell (p := ⟨g, i, none⟩) (by rw [HG.out]; exact Nat.le_refl _) _⟩, by simp only [tokM']; omega⟩
    · obtain rfl : i = n := by omega
      have hni : ¬ ((i : Int) < (i : Int)) := by omega
      obtain ⟨B, hB, hconv⟩ := HB.out.str i
      have hsz : ¬ 9223372036854775807 < X.size + B.size := by omega
      have HYS := Lib.hid (show (X ++ B).size ≤ 281474976710656 by rw [← list_size, app_list, List.length_append, list_size, list_size]; omega)
      clear hB
      obtain ⟨L, o, x, hr, hL⟩ := lex_parts (X ++ B).data.toList
      have H14 := Lib.hid (fun Y (hY : Ext w Y) => lex_known (X ++ B) L o x hr HYS.out Y (HE.out Y hY))
      have H15 := Lib.hid (fun Y => rlex_known (X ++ B) L o x hr HYS.out Y)
      clear hr
      obtain ⟨m, hm⟩ : ∃ m, m = L.length := ⟨_, rfl⟩
      unfold LexPost at H14 H15
      rw [← hm] at H14 H15 hL
      have HM := Lib.hid hm
      clear hm
      go_wp2_with (first | (go_at_call 14; refine (H14.out _ HXR.out).mono ?_; rintro e w1 ⟨A1, c1, rfl, HL1, hx⟩; have hx1 := HXR.out.trans hx; clear hx) | (go_at_call 15; refine (H15.out _).mono ?_; rintro e w2 ⟨A2, c2, rfl, HL2, hx⟩; have hx2 := hx1.trans hx; have HL1' := Lib.hid (HL1.out.ext hx); clear hx HL1) | (go_at_call 16; refine (same_self _ _ _ _ _ _ _ HM.out hL HL1'.out HL2.out).mono ?_; rintro e w3 ⟨rfl, hx⟩; have hx3 := hx2.trans hx; clear hx) | (go_at_call 17; refine (lives_any _ (HE.out _ hx3)).mono ?_; rintro e w4 ⟨rfl, hx⟩; have hx4 := hx3.trans hx; clear hx))
      go_ret
      exact ⟨rfl, hx4⟩
end Go.Proofs.YtbmcplnfamgpcaaDoor
