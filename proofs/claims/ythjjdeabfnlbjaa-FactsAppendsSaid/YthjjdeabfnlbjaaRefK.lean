/- The contracts of the reference's Known and Changes. -/
import Derived.Test.YthjjdeabfnlbjaaRefAt
namespace Go.Proofs.Ythjjdeabfnlbjaa
open Go Go.RowKit

set_option maxRecDepth 100000 in
set_option maxHeartbeats 1000000 in
theorem rknown_any (A : Option Addr) (n c : Nat) (l : List Vr) (day op : Int) (w : World) (hl : n ≤ 100) (hnc : n ≤ c) (h : SV w w.heap.size A n l) (hok : checkOf l = 0) (hen : ∀ k, k < n → 0 ≤ (vat l k).fc.en ∧ (vat l k).fc.en ≤ 5) :
    Calls Try.prog 23 #[.slice A n c, .int .i64 day, .int .i64 op] w (KnownPost l day op w) := by
  have HR := Lib.hid (rat_any A n c l op w hl hnc h hok hen)
  go_enter Try.func23, Try.ntmps23
  go_wp2_with fail
  refine HR.out.mono ?_
  rintro e w1 ⟨m0, A1, c1, rfl, hm, h6, hof, hx1⟩
  have HM := Lib.hid hm
  have HS := Lib.hid hof.sf
  have HX1 := Lib.hid hx1
  clear hm hof hx1 HR h hok hen
  go_wp2
  go_loopw [8, 9] (fun o i wr => ∃ (k : Nat) (L : List Fc) (A' : Option Addr) (c' : Nat), k ≤ m0.length ∧ o = .slice A' L.length c' ∧ i = .int .i64 k ∧ L = ((m0.take k).filter fun f => !pDay day f) ∧ OF wr w1.heap.size (.slice A' L.length c') L ∧ Ext w1 wr) (fun _ i _ => m0.length - (intOf i).toNat)
  case atStart => exact ⟨0, [], none, 0, Nat.zero_le _, rfl, rfl, rfl, OF.nil _ _, Ext.refl _⟩
  case round =>
    obtain ⟨k, L, A', c', hk, rfl, rfl, hL, hown, hx⟩ := hrel
    have HL := Lib.hid hL
    have hll : L.length ≤ m0.length := by rw [hL]; exact ffl_len _ _ _
    have HO := Lib.hid hown; clear hown hL
    by_cases hlt : k < m0.length
    · have hlt' : (k : Int) < m0.length := by omega
      obtain ⟨b, off, rfl, hb, c0, c1, c2, c3, c4, c5⟩ := SF.at_ (SF.lift HS.out (Nat.le_refl _) hx) (k := k) hlt
      by_cases he : (fat m0 k).day ≤ day
      · have hL2 : L ++ [fat m0 k] = ((m0.take (k + 1)).filter fun f => !pDay day f) := by rw [ftake_succ hlt, HL.out]; simp [pDay, Int.not_lt.2 he]
        have HL2 := Lib.hid hL2; clear hL2
        obtain ⟨A2, c2', w3, hrun, hown3, hb3, hk3⟩ := (HO.out.alloc (.cells #[.int .i64 (fat m0 k).en, .string (fat m0 k).kd, .int .i64 (fat m0 k).day, .int .i64 (fat m0 k).byy, .int .i64 (fat m0 k).too, .int .i64 (fat m0 k).am] 30)).append (SF.one wr (fat m0 k) 30) 1 (by omega) (le_alloc hx.lt _)
        have hx3 : Ext w1 w3 := Below.trans (hx.alloc _) (hb3 _ (Nat.le_refl _))
        have hown4 : OF w3 w1.heap.size (.slice A2 (L ++ [fat m0 k]).length c2') (L ++ [fat m0 k]) := by simpa using hown3
        have HO2 := Lib.hid hown4
        have HX := Lib.hid hx3
        clear hown3 hb3 hk3 hown4 hx3
        go_wp2_with (first | (at_builtin; refine wpList_append_run (s := .tmp 26) (x := .tmp 31) hrun rfl rfl rfl rfl rfl ?_))
        exact ⟨⟨k + 1, L ++ [fat m0 k], A2, c2', by omega, by simp, by go_num, HL2.out, HO2.out, HX.out⟩, by simp [intOf]; omega⟩
      · have hL2 : L = ((m0.take (k + 1)).filter fun f => !pDay day f) := by rw [ftake_succ hlt, HL.out]; simp [pDay, Int.not_le.1 he]
        have HL2 := Lib.hid hL2; clear hL2
        have he' : decide ((fat m0 k).day ≤ day) = false := decide_eq_false he
        have HE := Lib.hid he; clear he
        go_wp2
        exact ⟨⟨k + 1, L, A', c', by omega, rfl, by go_num, HL2.out, HO.out, hx⟩, by simp [intOf]; omega⟩
    · obtain rfl : k = m0.length := by omega
      go_wp2
      go_ret
      exact ⟨m0, L, A', c', rfl, HM.out, by rw [HL.out, List.take_length], HO.out.base HX1.out.lt, HX1.out.trans hx⟩

set_option maxRecDepth 100000 in
set_option maxHeartbeats 1000000 in
theorem rchg_any (A : Option Addr) (n c : Nat) (l : List Vr) (fr un : Int) (w : World) (hl : n ≤ 100) (hnc : n ≤ c) (h : SV w w.heap.size A n l) (hok : checkOf l = 0) (hen : ∀ k, k < n → 0 ≤ (vat l k).fc.en ∧ (vat l k).fc.en ≤ 5) :
    Calls Try.prog 27 #[.slice A n c, .int .i64 fr, .int .i64 un] w (ChgPost l fr un w) := by
  have HR := Lib.hid (fun (op : Int) (W : World) (hW : Ext w W) => rat_any A n c l op W hl hnc (SV.lift h (Nat.le_refl _) hW) hok hen)
  clear h hok hen
  go_enter Try.func27, Try.ntmps27
  go_wp2_with fail
  have hx0 : Ext w (w.alloc (.cells #[.slice none 0 0, .slice none 0 0] 44)) := (Ext.refl w).alloc _
  refine (HR.out fr _ hx0).mono ?_
  rintro e w1 ⟨a, A1, c1, rfl, hma, h6a, hofa, hx1⟩
  have HMA := Lib.hid hma
  have HOFA := Lib.hid hofa
  have hx1' := hx0.trans hx1
  clear hma hofa
  go_wp2_with fail
  refine (HR.out un _ hx1').mono ?_
  rintro e w2 ⟨b, A2, c2, rfl, hmb, h6b, hofb, hx2⟩
  have HMB := Lib.hid hmb
  have hsb := hofb.sf
  have hsa := (HOFA.out.ext hx2).sf
  have hx2' := hx1'.trans hx2
  have HSA := Lib.hid hsa
  have HSB := Lib.hid hsb
  clear hmb hofb hsa hsb HR HOFA
  go_wp2_with fail
  refine (without_any A2 A1 _ _ c2 c1 b a _ (by omega) (by omega) HSB.out HSA.out).mono ?_
  rintro e w3 ⟨x, A3, c3, rfl, hx, hof3, hx3⟩
  have HX := Lib.hid hx
  have HO3 := Lib.hid hof3
  clear hx hof3
  go_wp2_with fail
  refine (without_any A1 A2 _ _ c1 c2 a b _ (by omega) (by omega) (HSA.out.lift (Nat.le_refl _) hx3) (HSB.out.lift (Nat.le_refl _) hx3)).mono ?_
  rintro e w4 ⟨y, A4, c4, rfl, hy, hof4, hx4⟩
  have HY := Lib.hid hy
  have HO4 := Lib.hid hof4
  have hT := (Bk.new w 44 #[.slice none 0 0, .slice none 0 0]).ext (hx1.trans (hx2.trans (hx3.trans hx4)))
  obtain ⟨q1, p1⟩ := hT.cells
  have hsz : w.heap.size < w4.heap.size := hT.lt
  have HT := Lib.hid hT
  have HX4 := Lib.hid (hx2'.trans (hx3.trans hx4))
  have HX34 := Lib.hid hx4
  have hz2 : w.heap.size < w2.heap.size := by have := (hx1'.trans hx2).lt; have a1 := hx1.lt; have a2 := hx2.lt; simp at a1; omega
  have hz3 : w.heap.size < w3.heap.size := Nat.lt_of_lt_of_le hz2 hx3.lt
  clear hy hof4 hT hx0 hx1 hx1' hx2 hx2' hx3 hx4
  go_wp2_with fail
  refine bodyPost_ret (v := .agg #[.slice A3 x.length c3, .slice A4 y.length c4]) (by simp [results, Try.results27, go_sem, q1]) rfl ?_
  have o1 := (OF.far (OF.far (HO3.out.ext HX34.out) (p := ⟨w.heap.size, 0, none⟩) hz2 (.slice A3 x.length c3)) (p := ⟨w.heap.size, 1, none⟩) hz2 (.slice A4 y.length c4)).sf
  have o2 := (OF.far (OF.far HO4.out (p := ⟨w.heap.size, 0, none⟩) hz3 (.slice A3 x.length c3)) (p := ⟨w.heap.size, 1, none⟩) hz3 (.slice A4 y.length c4)).sf
  have hxx : Ext w ((w4.setCell ⟨w.heap.size, 0, none⟩ (.slice A3 x.length c3)).setCell ⟨w.heap.size, 1, none⟩ (.slice A4 y.length c4)) := (HX4.out.setCell (Nat.le_refl _) _).setCell (Nat.le_refl _) _
  obtain rfl := HX.out
  obtain rfl := HY.out
  exact ⟨a, b, A3, A4, c3, c4, rfl, HMA.out, HMB.out, h6a, h6b, o1, o2, hxx⟩
end Go.Proofs.Ythjjdeabfnlbjaa
