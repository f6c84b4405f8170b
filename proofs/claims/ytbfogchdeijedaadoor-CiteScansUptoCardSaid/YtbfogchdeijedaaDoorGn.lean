/- The contracts of the reference's generator of words: one, part. -/
import Derived.Test.YtbfogchdeijedaaDoorLives
namespace Go.Proofs.YtbfogchdeijedaaDoor
open Go Go.RowKit

def vocA : List ByteArray := [⟨#[97]⟩, ⟨#[116, 104, 101]⟩, ⟨#[99, 111, 117, 114, 116]⟩, ⟨#[119, 105, 108, 108]⟩, ⟨#[104, 101, 97, 114]⟩, ⟨#[109, 111, 116, 105, 111, 110]⟩, ⟨#[111, 102]⟩, ⟨#[112, 108, 97, 105, 110, 116, 105, 102, 102]⟩, ⟨#[77, 46, 73, 46, 84, 46]⟩, ⟨#[82, 117, 108, 101]⟩, ⟨#[49, 50, 40, 98, 41]⟩, ⟨#[100, 105, 115, 109, 105, 115, 115, 101, 100]⟩, ⟨#[119, 105, 116, 104]⟩, ⟨#[112, 114, 101, 106, 117, 100, 105, 99, 101]⟩, ⟨#[97, 110, 100]⟩, ⟨#[99, 111, 115, 116, 115]⟩, ⟨#[87, 87, 87, 64, 87]⟩, ⟨#[105, 116]⟩, ⟨#[105, 115]⟩, ⟨#[115, 111]⟩, ⟨#[111, 114, 100, 101, 114, 101, 100, 46]⟩, ⟨#[97, 98, 99, 100, 101, 102, 103, 104, 105, 106, 107, 108, 109, 110, 111, 112, 113, 114, 115, 116, 117, 118, 119, 120, 121, 122, 97, 98, 99, 100, 101, 102, 103, 104, 105, 106, 107, 108, 109, 110]⟩]
def keyA : List ByteArray := [⟨#[99, 111, 115, 116, 115]⟩, ⟨#[109, 111, 116, 105, 111, 110]⟩, ⟨#[82, 117, 108, 101]⟩, ⟨#[115, 109, 105, 116, 104]⟩]
def OnePost (w : World) (e : Ending) (w' : World) : Prop := ∃ v : Wd, e = .returned (.agg #[.string v.s, .string v.key, .int .i64 v.tb, .int .i64 v.nt]) ∧ v.s.size ≤ 100 ∧ Ext w w'
/-- A row of strings, none of them long. -/
def StrBox (W : World) (b n : Nat) : Prop := ∀ k, k < n → ∃ S : ByteArray, W.cell? ⟨b, k, none⟩ = some (.string S) ∧ S.size ≤ 100
theorem StrBox.of (W : World) (l : List ByteArray) (hl : ∀ s ∈ l, s.size ≤ 100) : StrBox (W.alloc (.cells (l.map Value.string).toArray 9)) W.heap.size l.length := fun k hk => by
  refine ⟨l[k], ?_, hl _ (List.getElem_mem hk)⟩
  rw [cell_of_row _ W.heap.size _ _ 9 (0, 0) (heap_alloc_new W _)]
  simp [hk]
theorem StrBox.at {W : World} {b n : Nat} (h : StrBox W b n) {W' : World} (hb : b < W.heap.size) (hx : Ext W W') : StrBox W' b n := fun k hk => by
  obtain ⟨S, h1, h2⟩ := h k hk
  obtain ⟨q, _⟩ := hx.cells
  exact ⟨S, by rw [q _ _ hb]; exact h1, h2⟩
theorem voc_box (W : World) : StrBox (W.alloc (.cells #[.string ⟨#[97]⟩, .string ⟨#[116, 104, 101]⟩, .string ⟨#[99, 111, 117, 114, 116]⟩, .string ⟨#[119, 105, 108, 108]⟩, .string ⟨#[104, 101, 97, 114]⟩, .string ⟨#[109, 111, 116, 105, 111, 110]⟩, .string ⟨#[111, 102]⟩, .string ⟨#[112, 108, 97, 105, 110, 116, 105, 102, 102]⟩, .string ⟨#[77, 46, 73, 46, 84, 46]⟩, .string ⟨#[82, 117, 108, 101]⟩, .string ⟨#[49, 50, 40, 98, 41]⟩, .string ⟨#[100, 105, 115, 109, 105, 115, 115, 101, 100]⟩, .string ⟨#[119, 105, 116, 104]⟩, .string ⟨#[112, 114, 101, 106, 117, 100, 105, 99, 101]⟩, .string ⟨#[97, 110, 100]⟩, .string ⟨#[99, 111, 115, 116, 115]⟩, .string ⟨#[87, 87, 87, 64, 87]⟩, .string ⟨#[105, 116]⟩, .string ⟨#[105, 115]⟩, .string ⟨#[115, 111]⟩, .string ⟨#[111, 114, 100, 101, 114, 101, 100, 46]⟩, .string ⟨#[97, 98, 99, 100, 101, 102, 103, 104, 105, 106, 107, 108, 109, 110, 111, 112, 113, 114, 115, 116, 117, 118, 119, 120, 121, 122, 97, 98, 99, 100, 101, 102, 103, 104, 105, 106, 107, 108, 109, 110]⟩] 9)) W.heap.size 22 := StrBox.of W vocA (by decide)
theorem key_box (W : World) : StrBox (W.alloc (.cells #[.string ⟨#[99, 111, 115, 116, 115]⟩, .string ⟨#[109, 111, 116, 105, 111, 110]⟩, .string ⟨#[82, 117, 108, 101]⟩, .string ⟨#[115, 109, 105, 116, 104]⟩] 9)) W.heap.size 4 := StrBox.of W keyA (by decide)
/-- A word in a block of its own, not frozen. -/
structure WBox (W : World) (b : Nat) (s k : ByteArray) (t n : Int) : Prop where
  lt : b < W.heap.size
  c0 : W.cell? ⟨b, 0, none⟩ = some (.string s)
  c1 : W.cell? ⟨b, 1, none⟩ = some (.string k)
  c2 : W.cell? ⟨b, 2, none⟩ = some (.int .i64 t)
  c3 : W.cell? ⟨b, 3, none⟩ = some (.int .i64 n)
  f0 : W.frozen? ⟨b, 0, none⟩ = false
  f1 : W.frozen? ⟨b, 1, none⟩ = false
  f2 : W.frozen? ⟨b, 2, none⟩ = false
  f3 : W.frozen? ⟨b, 3, none⟩ = false
theorem WBox.ext {W W' : World} {b : Nat} {s k : ByteArray} {t n : Int} (h : WBox W b s k t n) (hx : Ext W W') : WBox W' b s k t n := by
  obtain ⟨q, p⟩ := hx.cells
  exact ⟨Nat.lt_of_lt_of_le h.lt hx.lt, by rw [q _ _ h.lt]; exact h.c0, by rw [q _ _ h.lt]; exact h.c1, by rw [q _ _ h.lt]; exact h.c2, by rw [q _ _ h.lt]; exact h.c3,
    by rw [p _ _ h.lt]; exact h.f0, by rw [p _ _ h.lt]; exact h.f1, by rw [p _ _ h.lt]; exact h.f2, by rw [p _ _ h.lt]; exact h.f3⟩
theorem WBox.new (W : World) (s k : ByteArray) (t n : Int) (ty : TypeId) : WBox (W.alloc (.cells #[.string s, .string k, .int .i64 t, .int .i64 n] ty)) W.heap.size s k t n :=
  ⟨by simp, by go_simp, by go_simp, by go_simp, by go_simp, by go_simp, by go_simp, by go_simp, by go_simp⟩
theorem Ext.store4 {w W : World} {b : Nat} (h : Ext w W) (hb : w.heap.size ≤ b) (u0 u1 u2 u3 : Value) :
    Ext w ((((W.setCell ⟨b, 0, none⟩ u0).setCell ⟨b, 1, none⟩ u1).setCell ⟨b, 2, none⟩ u2).setCell ⟨b, 3, none⟩ u3) :=
  (((h.setCell (p := ⟨b, 0, none⟩) hb u0).setCell (p := ⟨b, 1, none⟩) hb u1).setCell (p := ⟨b, 2, none⟩) hb u2).setCell (p := ⟨b, 3, none⟩) hb u3
set_option maxHeartbeats 4000000 in
set_option maxRecDepth 100000 in
theorem one_any (n : Nat) (w : World) (hn : n ≤ 100000000) : Calls Tryd.prog 45 #[.int .i64 n] w (OnePost w) := by
  obtain ⟨a, ha⟩ : ∃ a, a = n % 22 := ⟨_, rfl⟩
  obtain ⟨d, hd⟩ : ∃ a, a = n / 22 % 6 := ⟨_, rfl⟩
  obtain ⟨g, hg⟩ : ∃ a, a = n / 132 % 4 := ⟨_, rfl⟩
  obtain ⟨t, ht⟩ : ∃ a, a = n / 528 % 2 := ⟨_, rfl⟩
  have e1 : (n : Int) % 22 = (a : Int) := by omega
  have e2 : (n : Int) / 22 % 6 = (d : Int) := by omega
  have e3 : (n : Int) / 132 % 4 = (g : Int) := by omega
  have e4 : (n : Int) / 528 % 2 = (t : Int) := by omega
  have ha22 : a < 22 := by omega
  have hg4 : g < 4 := by omega
  clear ha hd hg ht
  have hvb := voc_box (w.alloc (.cells #[.string ⟨#[]⟩, .string ⟨#[]⟩, .int .i64 0, .int .i64 0] 46))
  have hwb := (WBox.new w ⟨#[]⟩ ⟨#[]⟩ 0 0 46).ext ((Ext.refl _).alloc (.cells #[.string ⟨#[97]⟩, .string ⟨#[116, 104, 101]⟩, .string ⟨#[99, 111, 117, 114, 116]⟩, .string ⟨#[119, 105, 108, 108]⟩, .string ⟨#[104, 101, 97, 114]⟩, .string ⟨#[109, 111, 116, 105, 111, 110]⟩, .string ⟨#[111, 102]⟩, .string ⟨#[112, 108, 97, 105, 110, 116, 105, 102, 102]⟩, .string ⟨#[77, 46, 73, 46, 84, 46]⟩, .string ⟨#[82, 117, 108, 101]⟩, .string ⟨#[49, 50, 40, 98, 41]⟩, .string ⟨#[100, 105, 115, 109, 105, 115, 115, 101, 100]⟩, .string ⟨#[119, 105, 116, 104]⟩, .string ⟨#[112, 114, 101, 106, 117, 100, 105, 99, 101]⟩, .string ⟨#[97, 110, 100]⟩, .string ⟨#[99, 111, 115, 116, 115]⟩, .string ⟨#[87, 87, 87, 64, 87]⟩, .string ⟨#[105, 116]⟩, .string ⟨#[105, 115]⟩, .string ⟨#[115, 111]⟩, .string ⟨#[111, 114, 100, 101, 114, 101, 100, 46]⟩, .string ⟨#[97, 98, 99, 100, 101, 102, 103, 104, 105, 106, 107, 108, 109, 110, 111, 112, 113, 114, 115, 116, 117, 118, 119, 120, 121, 122, 97, 98, 99, 100, 101, 102, 103, 104, 105, 106, 107, 108, 109, 110]⟩] 9))
  have hx2 : Ext w ((w.alloc (.cells #[.string ⟨#[]⟩, .string ⟨#[]⟩, .int .i64 0, .int .i64 0] 46)).alloc (.cells #[.string ⟨#[97]⟩, .string ⟨#[116, 104, 101]⟩, .string ⟨#[99, 111, 117, 114, 116]⟩, .string ⟨#[119, 105, 108, 108]⟩, .string ⟨#[104, 101, 97, 114]⟩, .string ⟨#[109, 111, 116, 105, 111, 110]⟩, .string ⟨#[111, 102]⟩, .string ⟨#[112, 108, 97, 105, 110, 116, 105, 102, 102]⟩, .string ⟨#[77, 46, 73, 46, 84, 46]⟩, .string ⟨#[82, 117, 108, 101]⟩, .string ⟨#[49, 50, 40, 98, 41]⟩, .string ⟨#[100, 105, 115, 109, 105, 115, 115, 101, 100]⟩, .string ⟨#[119, 105, 116, 104]⟩, .string ⟨#[112, 114, 101, 106, 117, 100, 105, 99, 101]⟩, .string ⟨#[97, 110, 100]⟩, .string ⟨#[99, 111, 115, 116, 115]⟩, .string ⟨#[87, 87, 87, 64, 87]⟩, .string ⟨#[105, 116]⟩, .string ⟨#[105, 115]⟩, .string ⟨#[115, 111]⟩, .string ⟨#[111, 114, 100, 101, 114, 101, 100, 46]⟩, .string ⟨#[97, 98, 99, 100, 101, 102, 103, 104, 105, 106, 107, 108, 109, 110, 111, 112, 113, 114, 115, 116, 117, 118, 119, 120, 121, 122, 97, 98, 99, 100, 101, 102, 103, 104, 105, 106, 107, 108, 109, 110]⟩] 9)) := ((Ext.refl w).alloc _).alloc _
  rw [World.size_alloc] at hvb
  have HX2 := Lib.hid hx2
  clear hx2
  go_enter Tryd.func45, Tryd.ntmps45
  go_upto_region 2 with (fail)
  generalize (w.alloc (.cells #[.string ⟨#[]⟩, .string ⟨#[]⟩, .int .i64 0, .int .i64 0] 46)).alloc (.cells #[.string ⟨#[97]⟩, .string ⟨#[116, 104, 101]⟩, .string ⟨#[99, 111, 117, 114, 116]⟩, .string ⟨#[119, 105, 108, 108]⟩, .string ⟨#[104, 101, 97, 114]⟩, .string ⟨#[109, 111, 116, 105, 111, 110]⟩, .string ⟨#[111, 102]⟩, .string ⟨#[112, 108, 97, 105, 110, 116, 105, 102, 102]⟩, .string ⟨#[77, 46, 73, 46, 84, 46]⟩, .string ⟨#[82, 117, 108, 101]⟩, .string ⟨#[49, 50, 40, 98, 41]⟩, .string ⟨#[100, 105, 115, 109, 105, 115, 115, 101, 100]⟩, .string ⟨#[119, 105, 116, 104]⟩, .string ⟨#[112, 114, 101, 106, 117, 100, 105, 99, 101]⟩, .string ⟨#[97, 110, 100]⟩, .string ⟨#[99, 111, 115, 116, 115]⟩, .string ⟨#[87, 87, 87, 64, 87]⟩, .string ⟨#[105, 116]⟩, .string ⟨#[105, 115]⟩, .string ⟨#[115, 111]⟩, .string ⟨#[111, 114, 100, 101, 114, 101, 100, 46]⟩, .string ⟨#[97, 98, 99, 100, 101, 102, 103, 104, 105, 106, 107, 108, 109, 110, 111, 112, 113, 114, 115, 116, 117, 118, 119, 120, 121, 122, 97, 98, 99, 100, 101, 102, 103, 104, 105, 106, 107, 108, 109, 110]⟩] 9) = w2 at *
  obtain ⟨b, hb⟩ : ∃ b, b = w.heap.size := ⟨_, rfl⟩
  rw [← hb] at hvb hwb ⊢
  have HB := Lib.hid hb
  obtain ⟨S, hS, hSs⟩ := hvb a ha22
  clear hvb hb
  go_upto_region 3 with (fail)
  have hw3 := WBox.new w2 S ⟨#[]⟩ 0 0 46
  have hwb3 := hwb.ext ((Ext.refl w2).alloc (.cells #[.string S, .string ⟨#[]⟩, .int .i64 0, .int .i64 0] 46))
  have HX3 := Lib.hid (HX2.out.alloc (.cells #[.string S, .string ⟨#[]⟩, .int .i64 0, .int .i64 0] 46))
  have hlt := hwb.lt
  clear hwb hS
  generalize w2.alloc (.cells #[.string S, .string ⟨#[]⟩, .int .i64 0, .int .i64 0] 46) = w3 at *
  obtain ⟨b4, hb4⟩ : ∃ b, b = w2.heap.size := ⟨_, rfl⟩
  rw [← hb4] at hw3 hlt ⊢
  have HB4 := Lib.hid (show w.heap.size ≤ b4 by rw [hb4]; exact HX2.out.lt)
  have hne : b ≠ b4 := by omega
  have hne' : b4 ≠ b := by omega
  clear hb4 hlt
  by_cases hd0 : d = 0
  · have gd : ((d : Int) == 0) = true := by rw [beq_iff_eq]; omega
    have hkb := key_box w3
    have hw4 := hw3.ext ((Ext.refl w3).alloc (.cells #[.string ⟨#[99, 111, 115, 116, 115]⟩, .string ⟨#[109, 111, 116, 105, 111, 110]⟩, .string ⟨#[82, 117, 108, 101]⟩, .string ⟨#[115, 109, 105, 116, 104]⟩] 9))
    have hwb4 := hwb3.ext ((Ext.refl w3).alloc (.cells #[.string ⟨#[99, 111, 115, 116, 115]⟩, .string ⟨#[109, 111, 116, 105, 111, 110]⟩, .string ⟨#[82, 117, 108, 101]⟩, .string ⟨#[115, 109, 105, 116, 104]⟩] 9))
    have HX4 := Lib.hid (HX3.out.alloc (.cells #[.string ⟨#[99, 111, 115, 116, 115]⟩, .string ⟨#[109, 111, 116, 105, 111, 110]⟩, .string ⟨#[82, 117, 108, 101]⟩, .string ⟨#[115, 109, 105, 116, 104]⟩] 9))
    obtain ⟨K, hK, hKs⟩ := hkb g hg4
    obtain ⟨z0, y0, y1, y2, y3, y4, y5, y6, y7⟩ := hw4
    obtain ⟨z1, x0, x1, x2, x3, x4, x5, x6, x7⟩ := hwb4
    clear hd0 hkb hw3 hwb3
    have HBL := Lib.hid (Nat.le_of_eq HB.out.symm)
    have HBL4 := Lib.hid HB4.out
    clear hKs
    go_upto_region 4 with (fail)
    go_wp2
    refine bodyPost_ret (v := .agg #[.string S, .string K, .int .i64 t, .int .i64 0]) (by simp [results, Tryd.results45, go_sem, *]) rfl ?_
    refine ⟨⟨S, K, t, 0⟩, rfl, hSs, Ext.store4 ?_ HBL.out _ _ _ _⟩
    exact ((HX4.out.setCell (p := ⟨b4, 1, none⟩) HBL4.out _).setCell (p := ⟨b4, 2, none⟩) HBL4.out _)
  · have gd : ((d : Int) == 0) = false := by rw [beq_eq_false_iff_ne]; omega
    obtain ⟨z0, y0, y1, y2, y3, y4, y5, y6, y7⟩ := hw3
    obtain ⟨z1, x0, x1, x2, x3, x4, x5, x6, x7⟩ := hwb3
    have HBL := Lib.hid (Nat.le_of_eq HB.out.symm)
    clear hd0
    go_wp2
    refine bodyPost_ret (v := .agg #[.string S, .string ⟨#[]⟩, .int .i64 0, .int .i64 0]) (by simp [results, Tryd.results45, go_sem, *]) rfl ?_
    exact ⟨⟨S, ⟨#[]⟩, 0, 0⟩, rfl, hSs, HX3.out.store4 HBL.out _ _ _ _⟩
end Go.Proofs.YtbfogchdeijedaaDoor
