/- The contract of date.Parse, at texts of ten bytes that are digits and two dashes. -/
import Derived.Test.YtbmcplnfamgpcaaDoorDp
namespace Go.Proofs.YtbmcplnfamgpcaaDoor
open Go Go.RowKit

/-- Ten bytes of which the fifth and the eighth are dashes, the others digits. -/
structure Ten (s : ByteArray) : Prop where
  size : s.size = 10
  d4 : ((s.data.toList.drop 0).take (4 - 0)).all dig = true
  d5 : ((s.data.toList.drop 5).take (7 - 5)).all dig = true
  d8 : ((s.data.toList.drop 8).take (10 - 8)).all dig = true
  m4 : s.data.toList[4]? = some 45
  m7 : s.data.toList[7]? = some 45
def yOf (s : ByteArray) : Nat := dval 0 ((s.data.toList.drop 0).take (4 - 0))
def mOf (s : ByteArray) : Nat := dval 0 ((s.data.toList.drop 5).take (7 - 5))
def dOf (s : ByteArray) : Nat := dval 0 ((s.data.toList.drop 8).take (10 - 8))
theorem ten_get (s : ByteArray) (i : Nat) (h : s.data.toList[i]? = some 45) (hi : i < s.size) : ((s[i]'hi).toNat : Int) = 45 := by
  have h' : i < s.data.toList.length := by rw [list_size]; exact hi
  rw [List.getElem?_eq_getElem h'] at h
  injection h with h
  have : s[i]'hi = 45 := h
  rw [this]; rfl
set_option maxHeartbeats 4000000 in
set_option maxRecDepth 100000 in
theorem parse_any (s : ByteArray) (w : World) (hT : Ten s) (hL : EnvL w) : Calls Tryd.prog 49 #[.string s] w (DayPost (yOf s) (mOf s) (dOf s) w) := by
  have hs := hT.size
  have hq4 : ∀ h : 4 < s.size, (((s[4]'h).toNat : Int) != 45) = false := fun h => by rw [ten_get s 4 hT.m4 h]; decide
  have hq7 : ∀ h : 7 < s.size, (((s[7]'h).toNat : Int) != 45) = false := fun h => by rw [ten_get s 7 hT.m7 h]; decide
  have hmf : ∀ (fn : Fn) (first cap : Array Value) (w : World), (Instr.makeFunc fn first cap).run Tryd.prog w = .ok (.func fn first cap) w := fun _ _ _ _ => rfl
  have hy : yOf s < 10000 := dval_lt _ 4 (by rw [List.length_take]; omega) hT.d4
  have hm : mOf s < 100 := dval_lt _ 2 (by rw [List.length_take]; omega) hT.d5
  have hd : dOf s < 100 := dval_lt _ 2 (by rw [List.length_take]; omega) hT.d8
  have H0 := Lib.hid (fun W (hB : PBox W w.heap.size (w.heap.size + 1) s) => part_any W w.heap.size (w.heap.size + 1) s 0 4 hB (by omega) (by omega) (by omega) hT.d4)
  have H5 := Lib.hid (fun W (hB : PBox W w.heap.size (w.heap.size + 1) s) => part_any W w.heap.size (w.heap.size + 1) s 5 7 hB (by omega) (by omega) (by omega) hT.d5)
  have H8 := Lib.hid (fun W (hB : PBox W w.heap.size (w.heap.size + 1) s) => part_any W w.heap.size (w.heap.size + 1) s 8 10 hB (by omega) (by omega) (by omega) hT.d8)
  have HD := Lib.hid (fun X (hX : Ext w X) => day_any (yOf s) (mOf s) (dOf s) X (by omega) (by omega) (by omega) (hL.ext hX))
  have hB0 : PBox ((w.alloc (.cells #[.string s] 9)).alloc (.cells #[.int .i64 0] 24)) w.heap.size (w.heap.size + 1) s := ⟨by go_simp, by go_simp, by simp; omega, by simp⟩
  have hx0 : Ext w ((w.alloc (.cells #[.string s] 9)).alloc (.cells #[.int .i64 0] 24)) := (((Ext.refl w).alloc _).alloc _)
  have HB0 := Lib.hid hB0
  have HX0 := Lib.hid hx0
  clear hB0 hx0 hT hL
  rw [show dval 0 ((s.data.toList.drop 0).take (4 - 0)) = yOf s from rfl] at H0
  rw [show dval 0 ((s.data.toList.drop 5).take (7 - 5)) = mOf s from rfl] at H5
  rw [show dval 0 ((s.data.toList.drop 8).take (10 - 8)) = dOf s from rfl] at H8
  generalize yOf s = y at *
  generalize mOf s = m at *
  generalize dOf s = d at *
  unfold DayPost at HD ⊢
  generalize ((if dateB y m d then dayNo y m d else 0 : Nat) : Int) = N at *
  generalize chkE y m d = E at *
  go_enter Tryd.func49, Tryd.ntmps49
  go_wp2_with (first | (go_at_call 69; (have hg := hB2; clear hg); refine (H8.out _ hB2).mono ?_; rintro e w3 ⟨rfl, hx3⟩; have hB3 := hB2.ext hx3; have c4 := fun o => (hB3.ext ((Ext.refl _).alloc o)).err; have hxx3 := hxx2.trans hx3) | (go_at_call 69; (have hg := hB1; clear hg); refine (H5.out _ hB1).mono ?_; rintro e w2 ⟨rfl, hx2⟩; have hB2 := hB1.ext hx2; have hxx2 := hxx1.trans hx2) | (go_at_call 69; refine (H0.out _ HB0.out).mono ?_; rintro e w1 ⟨rfl, hx1⟩; have hB1 := HB0.out.ext hx1; have hxx1 := HX0.out.trans hx1) | (go_at_call 70; refine (HD.out _ (hxx3.alloc _)).mono ?_; rintro e w4 ⟨rfl, hx4⟩))
  refine bodyPost_ret (v := .tuple #[.int .i64 N, .int .i64 E]) (by simp [results, Tryd.results49, go_sem, *]) rfl ?_
  exact ⟨rfl, (hxx3.alloc _).trans hx4⟩
end Go.Proofs.YtbmcplnfamgpcaaDoor
