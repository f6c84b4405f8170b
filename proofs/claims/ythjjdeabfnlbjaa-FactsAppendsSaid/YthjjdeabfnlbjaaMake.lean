/- The contracts of the makers: rollbookref03.Around, Pick, rollbookref13.Kind, rollbookref18.Fact: what they return lies in the bounds that the statements use. -/
import Derived.Test.YthjjdeabfnlbjaaOwn
import Derived.Test.YthjjdeabfnlbjaaScalar
namespace Go.Proofs.Ythjjdeabfnlbjaa
open Go Go.RowKit

/-- A slice of ints. -/
def SI (w : World) (B : Nat) (A : Option Addr) (n : Nat) (f : Nat → Int) : Prop := Sl w B A n 1 (fun i => [.int .i64 (f i)]) ∧ ∀ i, i < n → -9223372036854775808 ≤ f i ∧ f i ≤ 9223372036854775807
theorem SI.at_ {w : World} {B : Nat} {A : Option Addr} {n : Nat} {f : Nat → Int} (h : SI w B A n f) {k : Nat} (hk : k < n) : ∃ b off, A = some ⟨b, off, none⟩ ∧ b < B ∧ w.cell? ⟨b, off + k, none⟩ = some (.int .i64 (f k)) := by
  obtain ⟨b, off, e, hb, hc⟩ := h.1 (by omega)
  exact ⟨b, off, e, hb, by simpa using hc k hk 0 _ rfl⟩
theorem SI.ext {w w' : World} {B : Nat} {A : Option Addr} {n : Nat} {f : Nat → Int} (h : SI w B A n f) (hx : Ext w w') (hB : B ≤ w.heap.size) : SI w' B A n f := ⟨h.1.ext hx hB, h.2⟩
theorem SI.lift {w w' : World} {B : Nat} {A : Option Addr} {n : Nat} {f : Nat → Int} (h : SI w B A n f) (hB : B ≤ w.heap.size) (hx : Ext w w') : SI w' w'.heap.size A n f := ⟨(h.1.ext hx hB).more (Nat.le_trans hB hx.lt), h.2⟩

def IntIn (lo hi : Int) (w : World) (e : Ending) (w' : World) : Prop := ∃ r : Int, e = .returned (.int .i64 r) ∧ lo ≤ r ∧ r < hi ∧ Ext w w'
def IntSame (lo hi : Int) (w : World) (e : Ending) (w' : World) : Prop := ∃ r : Int, e = .returned (.int .i64 r) ∧ lo ≤ r ∧ r < hi ∧ w = w'
theorem IntSame.in_ {lo hi : Int} {w : World} {e : Ending} {w' : World} (h : IntSame lo hi w e w') : IntIn lo hi w e w' := by
  obtain ⟨r, a, b, c, rfl⟩ := h; exact ⟨r, a, b, c, Ext.refl _⟩

theorem neg_tmod_in (n m : Int) (h : n < 0) (h3 : 1 ≤ m) : (n + 1).tmod m ≤ 0 ∧ -(n + 1).tmod m < m := by
  have e : -((n + 1).tmod m) = (-(n + 1)) % m := by rw [← Int.neg_tmod, Int.tmod_eq_emod_of_nonneg (by omega)]
  have hb1 := Int.emod_nonneg (-(n + 1)) (show m ≠ 0 by omega)
  have hb2 := Int.emod_lt_of_pos (-(n + 1)) (show 0 < m by omega)
  omega
theorem around_any (n m : Int) (w : World) (h1 : -9223372036854775808 ≤ n) (h2 : n ≤ 9223372036854775807) (h3 : 1 ≤ m) (h4 : m ≤ 1000000) :
    Calls Try.prog 29 #[.int .i64 n, .int .i64 m] w (IntSame 0 m w) := by
  by_cases h : n < 0
  · have hb := neg_tmod_in n m h h3
    have HB := Lib.hid hb; clear hb
    go_enter Try.func29, Try.ntmps29
    go_wp2
    go_ret
    exact ⟨_, rfl, by simpa using HB.out.1, by simpa using HB.out.2, rfl⟩
  · have hb1 := Int.emod_nonneg n (show m ≠ 0 by omega)
    have hb2 := Int.emod_lt_of_pos n (show 0 < m by omega)
    go_enter Try.func29, Try.ntmps29
    go_wp2
    go_ret
    exact ⟨_, rfl, by simpa using hb1, by simpa using hb2, rfl⟩
theorem around1_any (n m : Int) (w : World) (h1 : -9223372036854775808 ≤ n) (h2 : n ≤ 9223372036854775807) (h3 : 1 ≤ m) (h4 : m ≤ 1000000) :
    Calls Try.prog 57 #[.int .i64 n, .int .i64 m] w (IntSame 0 m w) := by
  by_cases h : n < 0
  · have hb := neg_tmod_in n m h h3
    have HB := Lib.hid hb; clear hb
    go_enter Try.func57, Try.ntmps57
    go_wp2
    go_ret
    exact ⟨_, rfl, by simpa using HB.out.1, by simpa using HB.out.2, rfl⟩
  · have hb1 := Int.emod_nonneg n (show m ≠ 0 by omega)
    have hb2 := Int.emod_lt_of_pos n (show 0 < m by omega)
    go_enter Try.func57, Try.ntmps57
    go_wp2
    go_ret
    exact ⟨_, rfl, by simpa using hb1, by simpa using hb2, rfl⟩

theorem pick_same (A : Option Addr) (n c : Nat) (f : Nat → Int) (i m : Int) (w : World) (h : SI w w.heap.size A n f) (h3 : 1 ≤ m) (h4 : m ≤ 1000000) :
    Calls Try.prog 32 #[.slice A n c, .int .i64 i, .int .i64 m] w (IntSame 0 m w) := by
  have HS := Lib.hid h; clear h
  by_cases hi : i < 0
  · go_enter Try.func32, Try.ntmps32
    go_wp2
    go_ret
    exact ⟨0, rfl, by omega, by omega, rfl⟩
  · by_cases hj : (n : Int) ≤ i
    · go_enter Try.func32, Try.ntmps32
      go_wp2
      go_ret
      exact ⟨0, rfl, by omega, by omega, rfl⟩
    · obtain ⟨k, rfl⟩ := Int.eq_ofNat_of_zero_le (Int.not_lt.1 hi)
      have hk : k < n := by omega
      obtain ⟨b, off, rfl, hb, c0⟩ := HS.out.at_ hk
      have hf := HS.out.2 k hk
      clear hi
      go_enter Try.func32, Try.ntmps32
      go_wp2_with (first | (go_at_call 29; refine (around_any _ m _ hf.1 hf.2 h3 h4).mono ?_; rintro e w' ⟨r, rfl, hr1, hr2, rfl⟩))
      go_ret
      exact ⟨r, rfl, hr1, hr2, rfl⟩

theorem pick_any (A : Option Addr) (n c : Nat) (f : Nat → Int) (i m : Int) (w : World) (h : SI w w.heap.size A n f) (h3 : 1 ≤ m) (h4 : m ≤ 1000000) :
    Calls Try.prog 32 #[.slice A n c, .int .i64 i, .int .i64 m] w (IntIn 0 m w) := (pick_same A n c f i m w h h3 h4).mono fun _ _ h => h.in_
def KindPost (w : World) (e : Ending) (w' : World) : Prop := ∃ s : ByteArray, e = .returned (.string s) ∧ wordB s = true ∧ Ext w w'
theorem kind_any (n : Int) (w : World) (h1 : 0 ≤ n) (h2 : n < 1000) :
    Calls Try.prog 48 #[.int .i64 n] w (KindPost w) := by
  go_enter Try.func48, Try.ntmps48
  go_wp2_with (first | (go_at_call 57; refine (around1_any n 6 _ (by omega) (by omega) (by omega) (by omega)).mono ?_; rintro e w1 ⟨r, rfl, hr1, hr2, rfl⟩; rcases (by omega : r = 0 ∨ r = 1 ∨ r = 2 ∨ r = 3 ∨ r = 4 ∨ r = 5) with rfl | rfl | rfl | rfl | rfl | rfl))
  all_goals
    go_ret
    exact ⟨_, rfl, by decide, (Ext.refl _).alloc _⟩

/-- Block g is just the cells cs, none of them frozen. -/
def Bk (w : World) (g : Nat) (t : TypeId) (cs : Array Value) : Prop := w.heap[g]? = some (.cells cs t (0, 0))
theorem Bk.lt {w : World} {g : Nat} {t : TypeId} {cs : Array Value} (h : Bk w g t cs) : g < w.heap.size := lt_of_block h
theorem Bk.new (w : World) (t : TypeId) (cs : Array Value) : Bk (w.alloc (.cells cs t)) w.heap.size t cs := heap_alloc_new w _
theorem Bk.ext {w w' : World} {g : Nat} {t : TypeId} {cs : Array Value} (h : Bk w g t cs) (hx : Ext w w') : Bk w' g t cs := (hx.block g h.lt).trans h
theorem Bk.grown {w w' : World} {g : Nat} {t : TypeId} {cs : Array Value} {row : Option Nat} (h : Bk w g t cs) (hg : w.grownBy w' row) (hr : some g ≠ row) : Bk w' g t cs := (hg.block g h.lt hr).trans h
theorem Bk.alloc {w : World} {g : Nat} {t : TypeId} {cs : Array Value} (h : Bk w g t cs) (o : Obj) : Bk (w.alloc o) g t cs := (Below.heap_alloc w o g h.lt).trans h
theorem Bk.drewN {w : World} {g : Nat} {t : TypeId} {cs : Array Value} (h : Bk w g t cs) (n : Nat) : Bk (w.drewN n) g t cs := h
theorem Bk.drew {w : World} {g : Nat} {t : TypeId} {cs : Array Value} (h : Bk w g t cs) : Bk w.drew g t cs := h
theorem Bk.set {w : World} {g : Nat} {t : TypeId} {cs : Array Value} (h : Bk w g t cs) (i : Nat) (u : Value) : Bk (w.setCell ⟨g, i, none⟩ u) g t (cs.setIfInBounds i u) := by
  unfold Bk at h ⊢
  simp [World.setCell, Array.getElem?_modify, h]
theorem Bk.far {w : World} {g : Nat} {t : TypeId} {cs : Array Value} (h : Bk w g t cs) {p : Addr} (hp : g ≠ p.block) (u : Value) : Bk (w.setCell p u) g t cs := (Below.heap_setCell w p u g hp).trans h
theorem Bk.cells {w : World} {g : Nat} {t : TypeId} {cs : Array Value} (h : Bk w g t cs) : (∀ i, w.cell? ⟨g, i, none⟩ = cs[i]?) ∧ (∀ i, w.frozen? ⟨g, i, none⟩ = false) := by
  unfold Bk at h
  exact ⟨fun i => cell_of_row w g i cs t (0, 0) h, fun i => by simp [World.frozen?, h]⟩

def FactPost (w : World) (e : Ending) (w' : World) : Prop := ∃ f : Fc, e = .returned f.val ∧ okF f = true ∧ 0 ≤ f.en ∧ f.en ≤ 5 ∧ Ext w w'

set_option maxRecDepth 100000 in
set_option maxHeartbeats 1000000 in
theorem fact_any (A : Option Addr) (n c : Nat) (f : Nat → Int) (w : World) (h : SI w w.heap.size A n f) :
    Calls Try.prog 33 #[.slice A n c] w (FactPost w) := by
  have HS := Lib.hid h; clear h
  go_enter Try.func33, Try.ntmps33
  go_wp2_with fail
  have hx0 : Ext w (w.alloc (.cells #[.int .i64 0, .string ⟨#[]⟩, .int .i64 0, .int .i64 0, .int .i64 0, .int .i64 0] 30)) := (Ext.refl w).alloc _
  refine (pick_any A n c f 0 6 _ (SI.lift HS.out (Nat.le_refl _) hx0) (by omega) (by omega)).mono ?_
  rintro e w1 ⟨r1, rfl, ha1, hb1, hx1⟩
  have hx1' := hx0.trans hx1
  go_wp2_with fail
  refine (pick_any A n c f 1 6 _ (SI.lift HS.out (Nat.le_refl _) hx1') (by omega) (by omega)).mono ?_
  rintro e w2 ⟨r2, rfl, ha2, hb2, hx2⟩
  have hx2' := hx1'.trans hx2
  go_wp2_with fail
  refine (kind_any r2 _ ha2 (by omega)).mono ?_
  rintro e w3 ⟨s, rfl, hs, hx3⟩
  have hx3' := hx2'.trans hx3
  go_wp2_with fail
  refine (pick_any A n c f 2 60 _ (SI.lift HS.out (Nat.le_refl _) hx3') (by omega) (by omega)).mono ?_
  rintro e w4 ⟨r3, rfl, ha3, hb3, hx4⟩
  have hx4' := hx3'.trans hx4
  have ht2 : Bk w4 w.heap.size 30 #[.int .i64 0, .string ⟨#[]⟩, .int .i64 0, .int .i64 0, .int .i64 0, .int .i64 0] := (Bk.new w 30 _).ext (hx1.trans (hx2.trans (hx3.trans hx4)))
  have HT2 := Lib.hid ht2; clear ht2 hx0 hx1 hx2 hx3 hx4 hx1' hx2' hx3'
  go_wp2_with fail
  have hxA := hx4'.alloc (.cells #[.int .i64 r1, .string s, .int .i64 (739616 + r3), .int .i64 0, .int .i64 0, .int .i64 0] 30)
  refine (pick_any A n c f 3 3 _ (SI.lift HS.out (Nat.le_refl _) hxA) (by omega) (by omega)).mono ?_
  rintro e w5 ⟨r4, rfl, ha4, hb4, hx5⟩
  have hx5' := hxA.trans hx5
  have hT5 := (Bk.new w4 30 _).ext hx5
  have hU5 := (HT2.out.alloc _).ext hx5
  have HT5 := Lib.hid hT5
  have HU5 := Lib.hid hU5
  obtain ⟨q5, p5⟩ := hT5.cells
  clear hT5 hU5 hxA hx5
  go_wp2_with fail
  have hge : w.heap.size ≤ w4.heap.size := hx4'.lt
  have hltx : w.heap.size < w4.heap.size := HT2.out.lt
  have hxB := hx5'.setCell (p := ⟨w4.heap.size, 3, none⟩) hge (.int .i64 r4)
  refine (pick_any A n c f 4 3 _ (SI.lift HS.out (Nat.le_refl _) hxB) (by omega) (by omega)).mono ?_
  rintro e w6 ⟨r5, rfl, ha5, hb5, hx6⟩
  have hx6' := hxB.trans hx6
  have hT6 := (HT5.out.set 3 (.int .i64 r4)).ext hx6
  have hU6 := (HU5.out.far (p := ⟨w4.heap.size, 3, none⟩) (by simp; omega) (.int .i64 r4)).ext hx6
  have HT6 := Lib.hid hT6
  have HU6 := Lib.hid hU6
  obtain ⟨q6, p6⟩ := hT6.cells
  clear hT6 hU6 hxB hx6 q5 p5 hx5'
  go_wp2_with fail
  have hxC := hx6'.setCell (p := ⟨w4.heap.size, 4, none⟩) hge (.int .i64 r5)
  refine (pick_any A n c f 5 100 _ (SI.lift HS.out (Nat.le_refl _) hxC) (by omega) (by omega)).mono ?_
  rintro e w7 ⟨r6, rfl, ha6, hb6, hx7⟩
  have hx7' := hxC.trans hx7
  have hT7 := (HT6.out.set 4 (.int .i64 r5)).ext hx7
  have hU7 := (HU6.out.far (p := ⟨w4.heap.size, 4, none⟩) (by simp; omega) (.int .i64 r5)).ext hx7
  obtain ⟨q7, p7⟩ := hT7.cells
  obtain ⟨q8, p8⟩ := hU7.cells
  clear hT7 hU7 hxC hx7 q6 p6 hx6'
  have hne : w.heap.size ≠ w4.heap.size := by omega
  go_wp2_with fail
  refine bodyPost_ret (v := .agg #[.int .i64 r1, .string s, .int .i64 (739616 + r3), .int .i64 r4, .int .i64 r5, .int .i64 r6]) (by simp [results, Try.results33, go_sem, q8]) rfl ?_
  refine ⟨⟨r1, s, 739616 + r3, r4, r5, r6⟩, rfl, ?_, ha1, by show r1 ≤ 5; omega, ?_⟩
  · simp [okF, inB, hs]; omega
  · iterate 6 (refine Ext.setCell ?_ (Nat.le_refl _) _)
    exact hx7'.setCell hge _
end Go.Proofs.Ythjjdeabfnlbjaa
