/- The contracts of slices.Grow at nil and of slices.Concat at two lists of paragraphs. -/
import Derived.Test.YtbfogchdeijedaaDoorRow
import Derived.Test.YtbfogchdeijedaaDoorFail
import Derived.Lib.AppendZeros
namespace Go.Proofs.YtbfogchdeijedaaDoor
open Go Go.RowKit

theorem info44 : (Tryd.prog.info? 44).map (fun i => (i.zero, i.size, i.bytes)) = some (some (.slice none 0 0), 1, 24) := by kernel_rfl
theorem info25 : (Tryd.prog.info? 25).map (fun i => (i.zero, i.size, i.bytes)) = some (some (.agg #[.int .i64 0, .int .i64 0, .int .i64 0, .int .i64 0]), 4, 32) := by kernel_rfl
/-- A slice as plain data. -/
structure Sl where
  A : Option Addr
  n : Nat
  c : Nat
def Sl.val (s : Sl) : Value := .slice s.A s.n s.c
def slc (s : Sl) : List Value := [s.val]
theorem slc_len (a : Sl) : (slc a).length = 1 := rfl
theorem slc_one (a : Sl) : ∀ u ∈ slc a, u.oneCell' = true := fun u hu => by
  obtain rfl : u = a.val := by simpa [slc] using hu
  rfl
theorem OL.base {α : Type} {cf : α → List Value} {sz : Nat} {w : World} {base base' : Nat} {e : TypeId} {v : Value} {l : List α} (h : OL cf sz w base e v l) (hb : base' ≤ base) : OL cf sz w base' e v l := by
  refine ⟨h.1, ?_⟩
  rcases h.2 with h2 | ⟨g, cap, cur, h1, h2, h3⟩
  · exact .inl h2
  · exact .inr ⟨g, cap, cur, h1, Nat.le_trans hb h2, h3⟩
def GrowPost (w : World) (e : Ending) (w' : World) : Prop := ∃ A c, e = .returned (.slice A 0 c) ∧ OL slc 1 w' w.heap.size 44 (.slice A 0 c) [] ∧ Ext w w'
set_option maxHeartbeats 2000000 in
set_option maxRecDepth 100000 in
theorem grow_any (n : Nat) (w : World) (hn : n ≤ 100000) : Calls Tryd.prog 46 #[.slice none 0 0, .int .i64 n] w (GrowPost w) := by
  by_cases h0 : n = 0
  · subst h0
    go_enter Tryd.func46, Tryd.ntmps46
    go_wp2
    go_ret
    exact ⟨none, 0, rfl, OL.nil _ _ _, Ext.refl _⟩
  · obtain ⟨i, hi, hz, hs, hb⟩ := info_parts info44
    have hrun := fun W => Lib.run_append_nil_zeros (P := Tryd.prog) W 40 3 40 44 i _ .i64 .i64 Tryd.underlying40 Tryd.underlying3 hi hz n (by omega) (by omega) (by omega) (by rw [hb]; omega)
    have HRUN := Lib.hid hrun
    have hne : ¬ (n : Int) < 0 := by omega
    have hpo : (0 : Int) < (n : Int) := by omega
    clear hrun hi hs hb
    have hz' : (Value.slice none 0 0).cells.size = 1 := rfl
    go_enter Tryd.func46, Tryd.ntmps46
    go_wp2_with (first | (at_builtin; refine Lib.wpList_append_run _ rfl (.tmp 20) (.tmp 21) 40 3 rfl _ _ rfl rfl _ _ (HRUN.out _) ?_))
    go_ret
    refine ⟨_, _, rfl, ⟨by simp [gcells], .inr ⟨w.heap.size, _, _, rfl, Nat.le_refl _, heap_alloc_new w _, Nat.zero_le _, grownCap_le_maxLen _ _ _ _ (by unfold maxLen; omega), ?_, by simp [gcells]⟩⟩, ((Ext.refl w).alloc _).drew⟩
    have hg := grownCap_ge w n 0 44
    rw [Array.size_append, size_zeroCells, size_zeroCells]
    simp
    omega
def CatPost (W : World) (l : List Sl) (e : Ending) (W' : World) : Prop := ∃ A c, e = .returned (.slice A l.length c) ∧ SL slc 1 W' A l.length l ∧ Ext W W'
def Cat1 (m1 m2 : Nat) (s3 s11 : Value) : Prop := (s11 = .int .i64 0 ∧ s3 = .int .i64 0) ∨ (s11 = .int .i64 1 ∧ s3 = .int .i64 m1) ∨ (s11 = .int .i64 2 ∧ s3 = .int .i64 ((m1 : Int) + (m2 : Int)))
def Cat2 (W : World) (m1 m2 : Nat) (l1 l2 : List Sl) (s6 s27 : Value) (w' : World) : Prop := Ext W w' ∧ ((s27 = .int .i64 0 ∧ OL slc 1 w' W.heap.size 44 s6 [] ∧ ∃ A c, s6 = .slice A 0 c) ∨
  (s27 = .int .i64 1 ∧ OL slc 1 w' W.heap.size 44 s6 l1 ∧ ∃ A c, s6 = .slice A m1 c) ∨ (s27 = .int .i64 2 ∧ OL slc 1 w' W.heap.size 44 s6 (l1 ++ l2) ∧ ∃ A c, s6 = .slice A (m1 + m2) c))
def upM (v : Value) : Nat := match v with | .int _ z => 2 - z.toNat | _ => 0
theorem ap40 {w : World} {base : Nat} {v : Value} {l : List Sl} (h : OL slc 1 w base 44 v l) {A : Option Addr} {m : Nat} {l' : List Sl} (hs : SL slc 1 w A m l') (c : Nat) (hm : l.length + m ≤ 100000000) (hbase : base ≤ w.heap.size) :
    ∃ A' c' w', (Builtin.append_ #[40, 40] 40 #[v, .slice A m c]).run Tryd.prog w = .ok (.slice A' (l.length + m) c') w' ∧ OL slc 1 w' base 44 (.slice A' (l.length + m) c') (l ++ l') ∧ (∀ B, B ≤ base → Below B w w') ∧
      (∀ k, k < w.heap.size → (∀ a, v ≠ .slice (some ⟨k, 0, none⟩) l.length a) → w'.heap[k]? = w.heap[k]?) :=
  OL.append slc_len slc_one (by omega) Tryd.underlying40 info44 rfl (by omega) h hs c hm hbase
set_option maxHeartbeats 4000000 in
set_option maxRecDepth 100000 in
theorem concat_any (W : World) (g : Nat) (A1 A2 : Option Addr) (c1 c2 : Nat) (l1 l2 : List Sl) (h1 : SL slc 1 W A1 l1.length l1) (h2 : SL slc 1 W A2 l2.length l2) (hl1 : l1.length ≤ 10000) (hl2 : l2.length ≤ 10000)
    (hg : g < W.heap.size) (hg0 : W.cell? ⟨g, 0, none⟩ = some (.slice A1 l1.length c1)) (hg1 : W.cell? ⟨g, 1, none⟩ = some (.slice A2 l2.length c2)) :
    Calls Tryd.prog 37 #[.slice (some ⟨g, 0, none⟩) 2 2] W (CatPost W (l1 ++ l2)) := by
  have H1 := Lib.hid h1
  have H2 := Lib.hid h2
  have HGW := Lib.hid (fun W' => (show Calls Tryd.prog 46 #[.slice none 0 0, .int .i64 ((l1.length : Int) + (l2.length : Int))] W' (GrowPost W') from by
    have := grow_any (l1.length + l2.length) W' (by omega)
    rwa [Int.natCast_add] at this))
  clear h1 h2
  generalize hm1 : l1.length = m1 at *
  generalize hm2 : l2.length = m2 at *
  have HM1 := Lib.hid hm1
  have HM2 := Lib.hid hm2
  clear hm1 hm2
  go_enter Tryd.func37, Tryd.ntmps37
  go_wp2_with fail
  go_loop [3, 11] (fun s3 s11 => Cat1 m1 m2 s3 s11) (fun _ s11 => upM s11)
  case atStart => exact .inl ⟨rfl, rfl⟩
  case round =>
    rcases hrel with ⟨rfl, rfl⟩ | ⟨rfl, rfl⟩ | ⟨rfl, rfl⟩
    · go_wp2_with fail
      exact ⟨.inr (.inl ⟨rfl, rfl⟩), by simp [upM]⟩
    · go_wp2_with fail
      exact ⟨.inr (.inr ⟨rfl, rfl⟩), by simp [upM]⟩
    · go_wp2_with (first | (go_at_call 46; refine (HGW.out _).mono ?_; rintro e w1 ⟨A, c, rfl, ho, hx⟩))
      have HO := Lib.hid ho
      have HX := Lib.hid hx
      clear ho hx
      go_loopw [6, 27] (fun s6 s27 w' => Cat2 W m1 m2 l1 l2 s6 s27 w') (fun _ s27 _ => upM s27)
      case atStart => exact ⟨HX.out, .inl ⟨rfl, HO.out, _, _, rfl⟩⟩
      case round =>
        obtain ⟨hxr, hrel⟩ := hrel
        have HXR := Lib.hid hxr
        obtain ⟨q, _⟩ := hxr.cells
        have hq0 := (q g 0 hg).trans hg0
        have hq1 := (q g 1 hg).trans hg1
        have hle := hxr.lt
        clear q hxr
        rcases hrel with ⟨rfl, ho, A', c', rfl⟩ | ⟨rfl, ho, A', c', rfl⟩ | ⟨rfl, ho, A', c', rfl⟩
        · obtain ⟨A3, c3, w3, hrun, ho3, hb3, _⟩ := ap40 ho (H1.out.ext HXR.out) c1 (by simp; omega) hle
          have HO3 := Lib.hid ho3
          have HB3 := Lib.hid hb3
          clear ho ho3 hb3
          go_wp2_with (first | (at_builtin; refine wpList_append_run (s := .tmp 31) (x := .tmp 32) hrun rfl rfl rfl rfl rfl ?_))
          refine ⟨⟨?_, .inr (.inl ⟨rfl, by simpa using HO3.out, A3, c3, rfl⟩)⟩, by simp [upM]⟩
          exact Below.trans HXR.out (HB3.out _ (Nat.le_refl _))
        · obtain ⟨A3, c3, w3, hrun, ho3, hb3, _⟩ := ap40 ho (H2.out.ext HXR.out) c2 (by have := HM1.out; omega) hle
          have HO3 := Lib.hid ho3
          have HB3 := Lib.hid hb3
          rw [HM1.out] at hrun
          clear ho ho3 hb3
          go_wp2_with (first | (at_builtin; refine wpList_append_run (s := .tmp 31) (x := .tmp 32) hrun rfl rfl rfl rfl rfl ?_))
          refine ⟨⟨?_, .inr (.inr ⟨rfl, by have := HO3.out; rw [HM1.out] at this; exact this, A3, c3, rfl⟩)⟩, by simp [upM]⟩
          exact Below.trans HXR.out (HB3.out _ (Nat.le_refl _))
        · have HO := Lib.hid ho
          clear ho
          go_wp2_with fail
          go_ret
          obtain ⟨A9, c9, e9, _, hs9⟩ := OL.form slc_len HO.out
          injection e9 with e1 e2 e3
          subst e1 e3
          refine ⟨A', c', ?_, hs9, HXR.out⟩
          rw [List.length_append, HM1.out, HM2.out]
          rfl
end Go.Proofs.YtbfogchdeijedaaDoor
