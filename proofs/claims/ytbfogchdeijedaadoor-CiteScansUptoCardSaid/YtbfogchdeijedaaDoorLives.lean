/- The contract of the law's 'lives': the examples of the chapter. -/
import Derived.Test.YtbfogchdeijedaaDoorScan
namespace Go.Proofs.YtbfogchdeijedaaDoor
open Go Go.RowKit

theorem ex1 : parseP [51, 47, 49, 50, 97, 47, 55] = (⟨3, 12, 1, 7⟩, 0) := by kernel_rfl
theorem ex2 : parseP [51, 47, 49, 50, 97] = (ct0, 7) := by kernel_rfl
theorem ex3 : parseP [48, 51, 47, 49, 50, 97, 47, 55] = (ct0, 7) := by kernel_rfl
theorem ex4 : parseP [51, 47, 49, 50, 97, 47, 48, 55] = (ct0, 7) := by kernel_rfl
theorem ex5 : parseP [51, 47, 48, 47, 55] = (ct0, 7) := by kernel_rfl
theorem ex6 : parseP [50, 53, 54, 47, 49, 50, 47, 55] = (ct0, 5) := by kernel_rfl
theorem ex7 : parseP [51, 47, 49, 50, 47, 48] = (ct0, 5) := by kernel_rfl
theorem ex8 : parseP [51, 47, 49, 50, 47, 49, 48, 49] = (ct0, 5) := by kernel_rfl
def exW : List Wd := [⟨⟨#[115, 101, 101]⟩, ⟨#[]⟩, 0, 0⟩, ⟨⟨#[48, 47, 49, 47, 50]⟩, ⟨#[]⟩, 0, 0⟩, ⟨⟨#[48, 47, 49, 47, 50, 44]⟩, ⟨#[]⟩, 0, 0⟩]
theorem ex9 : scanP [exW] = [⟨0, 1, 0, 2⟩] := by kernel_rfl
theorem exT : textP ⟨3, 12, 1, 7⟩ = [51, 47, 49, 50, 97, 47, 55] := (text_parse ex1).1
theorem exZ : textP ⟨3, 12, 1, 0⟩ = [] := by unfold textP; rw [if_neg]; rw [citB_no (.inr (.inr (.inl (by decide))))]; simp
theorem SL.new {α : Type} {cf : α → List Value} {sz : Nat} (hcf : ∀ a, (cf a).length = sz) (w : World) (l : List α) (cs : Array Value) (hcs : cs.toList = gcells cf l) (t : TypeId) : SL cf sz (w.alloc (.cells cs t)) (some ⟨w.heap.size, 0, none⟩) l.length l := by
  refine ⟨rfl, fun _ => ⟨w.heap.size, 0, rfl, by simp, fun i a hi j u hu => ?_⟩⟩
  have hj : j < sz := by rw [← hcf a]; exact (List.getElem?_eq_some_iff.1 hu).1
  rw [cell_of_row _ w.heap.size _ _ t (0, 0) (heap_alloc_new w _)]
  rw [← gcells_at hcf l i a hi j hj, ← hcs] at hu
  simpa using hu
theorem scan_ex (X : World) (hE : Env X) : Calls Tryd.prog 16 #[.agg #[.slice (some ⟨X.heap.size + 1, 0, none⟩) 1 1, .slice none 0 0]]
    ((X.alloc (.cells #[.string ⟨#[115, 101, 101]⟩, .string ⟨#[]⟩, .int .i64 0, .int .i64 0, .string ⟨#[48, 47, 49, 47, 50]⟩, .string ⟨#[]⟩, .int .i64 0, .int .i64 0, .string ⟨#[48, 47, 49, 47, 50, 44]⟩, .string ⟨#[]⟩, .int .i64 0, .int .i64 0] 46)).alloc (.cells #[.slice (some ⟨X.heap.size, 0, none⟩) 3 3] 44)) (ScanPost X [⟨0, 1, 0, 2⟩]) := by
  have h1 := SL.new (cf := wcf) wcf_len X exW #[.string ⟨#[115, 101, 101]⟩, .string ⟨#[]⟩, .int .i64 0, .int .i64 0, .string ⟨#[48, 47, 49, 47, 50]⟩, .string ⟨#[]⟩, .int .i64 0, .int .i64 0, .string ⟨#[48, 47, 49, 47, 50, 44]⟩, .string ⟨#[]⟩, .int .i64 0, .int .i64 0] rfl 46
  have h2 := SL.one (cf := slc) (sz := 1) (X.alloc (.cells #[.string ⟨#[115, 101, 101]⟩, .string ⟨#[]⟩, .int .i64 0, .int .i64 0, .string ⟨#[48, 47, 49, 47, 50]⟩, .string ⟨#[]⟩, .int .i64 0, .int .i64 0, .string ⟨#[48, 47, 49, 47, 50, 44]⟩, .string ⟨#[]⟩, .int .i64 0, .int .i64 0] 46)) ⟨some ⟨X.heap.size, 0, none⟩, 3, 3⟩ #[.slice (some ⟨X.heap.size, 0, none⟩) 3 3] rfl 44
  rw [World.size_alloc] at h2
  have hx : Ext X ((X.alloc (.cells #[.string ⟨#[115, 101, 101]⟩, .string ⟨#[]⟩, .int .i64 0, .int .i64 0, .string ⟨#[48, 47, 49, 47, 50]⟩, .string ⟨#[]⟩, .int .i64 0, .int .i64 0, .string ⟨#[48, 47, 49, 47, 50, 44]⟩, .string ⟨#[]⟩, .int .i64 0, .int .i64 0] 46)).alloc (.cells #[.slice (some ⟨X.heap.size, 0, none⟩) 3 3] 44)) := ((Ext.refl X).alloc _).alloc _
  have := scan_any _ (some ⟨X.heap.size + 1, 0, none⟩) none 1 0 [⟨some ⟨X.heap.size, 0, none⟩, 3, 3⟩] [] [exW] h2 (SL.nil _) (by simp) (by simp) ⟨rfl, fun i s l hi hl => by
    obtain rfl : i = 0 := by
      have := (List.getElem?_eq_some_iff.1 hi).1
      simp at this; exact this
    obtain rfl : (⟨some ⟨X.heap.size, 0, none⟩, 3, 3⟩ : Sl) = s := by simpa using hi
    obtain rfl : exW = l := by simpa using hl
    refine ⟨h1.ext ((Ext.refl _).alloc _), by simp [exW], fun w hw => ?_⟩
    simp only [exW, List.mem_cons, List.not_mem_nil, or_false] at hw
    rcases hw with rfl | rfl | rfl <;> decide⟩ (by rw [ex9]; simp) (hE.ext hx)
  rw [ex9] at this
  refine this.mono ?_
  rintro e w' ⟨A, c, rfl, hs, hx2⟩
  exact ⟨A, c, rfl, hs, hx.trans hx2⟩
set_option maxHeartbeats 1000000 in
set_option maxRecDepth 100000 in
theorem lives_any (w : World) (hE : Env w) : Calls Tryd.prog 11 #[] w (BoolPost true w) := by
  have HE := Lib.hid (fun X (hX : Ext w X) => hE.ext hX)
  have HP := Lib.hid (show ∀ X, Ext w X → Calls Tryd.prog 12 #[.string ⟨#[51, 47, 49, 50, 97, 47, 55]⟩] X (fun e X' => e = .returned (.tuple #[.agg #[.int .i64 3, .int .i64 12, .int .i64 1, .int .i64 7], .int .i64 0]) ∧ Ext X X') from fun X hX => by
    have := cparse_any ⟨#[51, 47, 49, 50, 97, 47, 55]⟩ X (by decide) (HE.out X hX)
    rw [show parseP ((⟨#[51, 47, 49, 50, 97, 47, 55]⟩ : ByteArray).data.toList) = (⟨3, 12, 1, 7⟩, 0) from ex1] at this; exact this)
  have HT := Lib.hid (show ∀ X, Ext w X → Calls Tryd.prog 9 #[.agg #[.int .i64 3, .int .i64 12, .int .i64 1, .int .i64 7]] X (fun e X' => e = .returned (.string ⟨#[51, 47, 49, 50, 97, 47, 55]⟩) ∧ Ext X X') from fun X hX => by
    have := ctext_any ⟨3, 12, 1, 7⟩ X (HE.out X hX).tab
    rw [exT] at this; exact this)
  have HZ := Lib.hid (show ∀ X, Ext w X → Calls Tryd.prog 9 #[.agg #[.int .i64 3, .int .i64 12, .int .i64 1, .int .i64 0]] X (fun e X' => e = .returned (.string ⟨#[]⟩) ∧ Ext X X') from fun X hX => by
    have := ctext_any ⟨3, 12, 1, 0⟩ X (HE.out X hX).tab
    rw [exZ] at this; exact this)
  have HF := Lib.hid (fun (s : ByteArray) (er : Int) (hp : parseP s.data.toList = (ct0, er)) (hs : s.size ≤ 281474976710656) X (hX : Ext w X) => fails_any s er X hs (HE.out X hX) hp)
  clear hE
  go_enter Tryd.func11, Tryd.ntmps11
  go_upto_region 5 with (first
    | (go_at_call 12; refine (HP.out _ ?_).mono ?_; (repeat (first | exact Ext.refl _ | refine Ext.alloc ?_ _)); rintro e w1 ⟨rfl, hx1⟩))
  have hx2 : Ext w (w1.alloc (.cells #[.int .i64 3, .int .i64 12, .int .i64 1, .int .i64 7] 25)) := by
    refine Ext.alloc (Ext.trans ?_ hx1) _
    repeat (first | exact Ext.refl _ | refine Ext.alloc ?_ _)
  have hs0 := scan_ex _ (HE.out _ hx2)
  simp only [World.size_alloc] at hs0
  have HS := Lib.hid hs0
  clear hs0
  have hd : w.heap.size + 1 < w1.heap.size := by have := hx1.lt; simp at this; omega
  have hd0 : w.heap.size < w1.heap.size := by omega
  obtain ⟨q1, _⟩ := hx1.cells
  have e0 : ∀ i, w1.cell? ⟨w.heap.size, i, none⟩ = _ := fun i => q1 w.heap.size i (by simp; omega)
  have e1 : ∀ i, w1.cell? ⟨w.heap.size + 1, i, none⟩ = _ := fun i => q1 (w.heap.size + 1) i (by simp)
  have a0 : w1.cell? ⟨w.heap.size, 0, none⟩ = some (.int .i64 3) := (e0 0).trans (by go_simp)
  have a1 : w1.cell? ⟨w.heap.size, 1, none⟩ = some (.int .i64 12) := (e0 1).trans (by go_simp)
  have a2 : w1.cell? ⟨w.heap.size, 2, none⟩ = some (.int .i64 1) := (e0 2).trans (by go_simp)
  have a3 : w1.cell? ⟨w.heap.size, 3, none⟩ = some (.int .i64 7) := (e0 3).trans (by go_simp)
  have b0 : w1.cell? ⟨w.heap.size + 1, 0, none⟩ = some (.int .i64 3) := (e1 0).trans (by go_simp)
  have b1 : w1.cell? ⟨w.heap.size + 1, 1, none⟩ = some (.int .i64 12) := (e1 1).trans (by go_simp)
  have b2 : w1.cell? ⟨w.heap.size + 1, 2, none⟩ = some (.int .i64 1) := (e1 2).trans (by go_simp)
  have b3 : w1.cell? ⟨w.heap.size + 1, 3, none⟩ = some (.int .i64 0) := (e1 3).trans (by go_simp)
  clear q1 e0 e1 hx1
  have HX2 := Lib.hid hx2
  clear hx2
  go_upto_region 6 with (first
    | (go_at_call 16; refine HS.out.mono ?_; rintro e w2 ⟨A, c, rfl, hs, hx3⟩))
  have hx4 := HX2.out.trans hx3
  obtain ⟨b, off, ct, rfl, hb, hct, _, hcc⟩ := SL.at hs (k := 0) (by simp)
  obtain rfl : (⟨0, 1, 0, 2⟩ : Ct) = ct := by simpa using hct
  obtain ⟨q3, _⟩ := hx3.cells
  have lt0 : w.heap.size < (w1.alloc (.cells #[.int .i64 3, .int .i64 12, .int .i64 1, .int .i64 7] 25)).heap.size := by simp; omega
  have lt1 : w.heap.size + 1 < (w1.alloc (.cells #[.int .i64 3, .int .i64 12, .int .i64 1, .int .i64 7] 25)).heap.size := by simp; omega
  have lt2 : w1.heap.size < (w1.alloc (.cells #[.int .i64 3, .int .i64 12, .int .i64 1, .int .i64 7] 25)).heap.size := by simp
  have m0 : w2.cell? ⟨w.heap.size, 0, none⟩ = some (.int .i64 3) := (q3 _ _ lt0).trans ((World.cell?_alloc_lt _ _ _ hd0).trans a0)
  have m1 : w2.cell? ⟨w.heap.size, 1, none⟩ = some (.int .i64 12) := (q3 _ _ lt0).trans ((World.cell?_alloc_lt _ _ _ hd0).trans a1)
  have m2 : w2.cell? ⟨w.heap.size, 2, none⟩ = some (.int .i64 1) := (q3 _ _ lt0).trans ((World.cell?_alloc_lt _ _ _ hd0).trans a2)
  have m3 : w2.cell? ⟨w.heap.size, 3, none⟩ = some (.int .i64 7) := (q3 _ _ lt0).trans ((World.cell?_alloc_lt _ _ _ hd0).trans a3)
  have n0 : w2.cell? ⟨w.heap.size + 1, 0, none⟩ = some (.int .i64 3) := (q3 _ _ lt1).trans ((World.cell?_alloc_lt _ _ _ hd).trans b0)
  have n1 : w2.cell? ⟨w.heap.size + 1, 1, none⟩ = some (.int .i64 12) := (q3 _ _ lt1).trans ((World.cell?_alloc_lt _ _ _ hd).trans b1)
  have n2 : w2.cell? ⟨w.heap.size + 1, 2, none⟩ = some (.int .i64 1) := (q3 _ _ lt1).trans ((World.cell?_alloc_lt _ _ _ hd).trans b2)
  have n3 : w2.cell? ⟨w.heap.size + 1, 3, none⟩ = some (.int .i64 0) := (q3 _ _ lt1).trans ((World.cell?_alloc_lt _ _ _ hd).trans b3)
  have k0 : w2.cell? ⟨w1.heap.size, 0, none⟩ = some (.int .i64 3) := (q3 _ _ lt2).trans (by go_simp)
  have k1 : w2.cell? ⟨w1.heap.size, 1, none⟩ = some (.int .i64 12) := (q3 _ _ lt2).trans (by go_simp)
  have k2 : w2.cell? ⟨w1.heap.size, 2, none⟩ = some (.int .i64 1) := (q3 _ _ lt2).trans (by go_simp)
  have k3 : w2.cell? ⟨w1.heap.size, 3, none⟩ = some (.int .i64 7) := (q3 _ _ lt2).trans (by go_simp)
  have hc0 := hcc 0 (.int .i64 0) rfl
  have hc1 := hcc 1 (.int .i64 1) rfl
  have hc2 := hcc 2 (.int .i64 0) rfl
  have hc3 := hcc 3 (.int .i64 2) rfl
  simp only [Nat.zero_mul, Nat.add_zero] at hc0 hc1 hc2 hc3
  have d1 : w.heap.size < w2.heap.size := Nat.lt_of_lt_of_le lt0 hx3.lt
  have d2 : w.heap.size + 1 < w2.heap.size := Nat.lt_of_lt_of_le lt1 hx3.lt
  have d3 : w1.heap.size < w2.heap.size := Nat.lt_of_lt_of_le lt2 hx3.lt
  have HX4 := Lib.hid hx4
  clear hx4 hx3 q3 lt0 lt1 lt2 hs hcc a0 a1 a2 a3 b0 b1 b2 b3 hct
  go_upto_region 8 with (first
    | (have hg := HX6; clear hg; go_at_call 9; refine (HZ.out _ HX6.out).mono ?_; rintro e w4 ⟨rfl, hx7⟩; have hx8 := HX5.out.trans hx7; obtain ⟨q8, _⟩ := hx8.cells; have r0 := (q8 _ 0 d1).trans m0; have r1 := (q8 _ 1 d1).trans m1; have r2 := (q8 _ 2 d1).trans m2; have r3 := (q8 _ 3 d1).trans m3; have t0 := (q8 _ 0 d3).trans k0; have t1 := (q8 _ 1 d3).trans k1; have t2 := (q8 _ 2 d3).trans k2; have t3 := (q8 _ 3 d3).trans k3; have HX8 := Lib.hid hx8; clear hx7 hx8 q8)
    | (go_at_call 9; refine (HT.out _ HX4.out).mono ?_; rintro e w3 ⟨rfl, hx5⟩; obtain ⟨q5, _⟩ := hx5.cells; have o0 := (q5 _ 0 d2).trans n0; have o1 := (q5 _ 1 d2).trans n1; have o2 := (q5 _ 2 d2).trans n2; have o3 := (q5 _ 3 d2).trans n3; have hx6 := HX4.out.trans hx5; have HX6 := Lib.hid hx6; have HX5 := Lib.hid hx5; clear hx5 hx6 q5))
  have hx9 := HX4.out.trans HX8.out
  have HX9 := Lib.hid hx9
  clear hx9
  have HQ := Lib.hid (fun X (hX : Ext w2 X) => (show X.cell? ⟨b, off, none⟩ = some (.int .i64 0) ∧ X.cell? ⟨b, off + 1, none⟩ = some (.int .i64 1) ∧ X.cell? ⟨b, off + 2, none⟩ = some (.int .i64 0) ∧ X.cell? ⟨b, off + 3, none⟩ = some (.int .i64 2) from by
    obtain ⟨q, _⟩ := hX.cells
    exact ⟨(q _ _ hb).trans hc0, (q _ _ hb).trans hc1, (q _ _ hb).trans hc2, (q _ _ hb).trans hc3⟩))
  clear hc0 hc1 hc2 hc3 o0 o1 o2 o3 r0 r1 r2 r3 t0 t1 t2 t3 m0 m1 m2 m3 n0 n1 n2 n3 k0 k1 k2 k3
  have F2 := Lib.hid (fun X hX => HF.out ⟨#[51, 47, 49, 50, 97]⟩ 7 ex2 (by decide) X hX)
  have F3 := Lib.hid (fun X hX => HF.out ⟨#[48, 51, 47, 49, 50, 97, 47, 55]⟩ 7 ex3 (by decide) X hX)
  have F4 := Lib.hid (fun X hX => HF.out ⟨#[51, 47, 49, 50, 97, 47, 48, 55]⟩ 7 ex4 (by decide) X hX)
  have F5 := Lib.hid (fun X hX => HF.out ⟨#[51, 47, 48, 47, 55]⟩ 7 ex5 (by decide) X hX)
  have F6 := Lib.hid (fun X hX => HF.out ⟨#[50, 53, 54, 47, 49, 50, 47, 55]⟩ 5 ex6 (by decide) X hX)
  have F7 := Lib.hid (fun X hX => HF.out ⟨#[51, 47, 49, 50, 47, 48]⟩ 5 ex7 (by decide) X hX)
  have F8 := Lib.hid (fun X hX => HF.out ⟨#[51, 47, 49, 50, 47, 49, 48, 49]⟩ 5 ex8 (by decide) X hX)
  clear HF
  go_upto_region 9 with (first
    | (have hg := HX13; clear hg; fail)
    | (have hg := HX12; clear hg; go_at_call 23; refine (F5.out _ HX12.out).mono ?_; rintro e w13 ⟨rfl, hx⟩; have hx13 := HX12.out.trans hx; have hy13 := HY12.out.trans hx; have HX13 := Lib.hid hx13; have HY13 := Lib.hid hy13; clear hx hx13 hy13)
    | (have hg := HX11; clear hg; go_at_call 23; refine (F4.out _ HX11.out).mono ?_; rintro e w12 ⟨rfl, hx⟩; have hx12 := HX11.out.trans hx; have hy12 := HY11.out.trans hx; have HX12 := Lib.hid hx12; have HY12 := Lib.hid hy12; clear hx hx12 hy12)
    | (have hg := HX10; clear hg; go_at_call 23; refine (F3.out _ HX10.out).mono ?_; rintro e w11 ⟨rfl, hx⟩; have hx11 := HX10.out.trans hx; have hy11 := HY10.out.trans hx; have HX11 := Lib.hid hx11; have HY11 := Lib.hid hy11; clear hx hx11 hy11)
    | (go_at_call 23; refine (F2.out _ HX9.out).mono ?_; rintro e w10 ⟨rfl, hx⟩; have hx10 := HX9.out.trans hx; have hy10 := HX8.out.trans hx; have HX10 := Lib.hid hx10; have HY10 := Lib.hid hy10; clear hx hx10 hy10))
  go_wp2_with (first
    | (have hg := HX15; clear hg; go_at_call 23; refine (F8.out _ HX15.out).mono ?_; rintro e w16 ⟨rfl, hx⟩; have hx16 := HX15.out.trans hx; obtain ⟨z0, z1, z2, z3⟩ := HQ.out _ (HY15.out.trans hx); have HX16 := Lib.hid hx16; clear hx hx16)
    | (have hg := HX14; clear hg; go_at_call 23; refine (F7.out _ HX14.out).mono ?_; rintro e w15 ⟨rfl, hx⟩; have hx15 := HX14.out.trans hx; have hy15 := HY14.out.trans hx; have HX15 := Lib.hid hx15; have HY15 := Lib.hid hy15; clear hx hx15 hy15)
    | (go_at_call 23; refine (F6.out _ HX13.out).mono ?_; rintro e w14 ⟨rfl, hx⟩; have hx14 := HX13.out.trans hx; have hy14 := HY13.out.trans hx; have HX14 := Lib.hid hx14; have HY14 := Lib.hid hy14; clear hx hx14 hy14))
  go_ret
  exact ⟨rfl, HX16.out⟩
end Go.Proofs.YtbfogchdeijedaaDoor
