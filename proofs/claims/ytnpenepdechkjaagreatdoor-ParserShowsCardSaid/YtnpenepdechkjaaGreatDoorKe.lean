/- The law's tree. -/
import Derived.Test.YtnpenepdechkjaaGreatDoorKd
namespace Go.Proofs.YtnpenepdechkjaaGreatDoor
open Go Go.RowKit

theorem SL.takeN {α : Type} {cf : α → List Value} {sz : Nat} {W : World} {A : Option Addr} {n : Nat} {l : List α} (h : SL cf sz W A n l) (m : Nat) (hm : m ≤ n) : SL cf sz W A m (l.take m) := by
  obtain ⟨h1, h2⟩ := h
  refine ⟨by rw [List.length_take]; omega, fun h0 => ?_⟩
  obtain ⟨b, off, e, hb, hc⟩ := h2 (by omega)
  refine ⟨b, off, e, hb, fun i x hx j u hu => hc i x ?_ j u hu⟩
  rw [List.getElem?_take] at hx
  split at hx
  · exact hx
  · cases hx
def TreePost (w : World) (G : Tr → Prop) (e : Ending) (X : World) : Prop := ∃ (d : Nd) (t : Tr), e = .returned (.agg #[.int .i64 d.k, .int .i64 d.n, .string d.s, .slice d.A d.m d.c]) ∧ Rep X (fun k => w.heap.size ≤ k) d t ∧ G t ∧ Ext w X
set_option maxHeartbeats 2000000 in
set_option maxRecDepth 100000 in
theorem tree_any (deep : Nat) (hd : deep ≤ 7) (A : Option Addr) (c : Nat) (l : List Int) (w : World) (hb : ∀ n ∈ l, -9223372036854775808 ≤ n ∧ n ≤ 9223372036854775807) (hc : l.length ≤ c) (hc2 : c ≤ 9223372036854775807) (h : SL icf 1 w A l.length l) :
    Calls Tryz.prog 25 #[.slice A l.length c, .int .i64 deep] w (TreePost w (GAny deep)) := by
  obtain ⟨m, hm⟩ : ∃ m, m = min l.length 60 := ⟨_, rfl⟩
  have hm1 : m ≤ l.length := by omega
  have hm2 : m ≤ 60 := by omega
  have hmI : min (l.length : Int) 60 = (m : Int) := by omega
  have hmI1 : (m : Int) ≤ (l.length : Int) := by omega
  have hmc : (m : Int) ≤ (c : Int) := by omega
  have hFN : FN deep ≤ 10000 := by
    rcases (by omega : deep = 0 ∨ deep = 1 ∨ deep = 2 ∨ deep = 3 ∨ deep = 4 ∨ deep = 5 ∨ deep = 6 ∨ deep = 7) with rfl | rfl | rfl | rfl | rfl | rfl | rfl | rfl <;> decide
  have hx1 : Ext w (w.alloc (.cells #[.int .i64 0, .int .i64 0, .string ⟨#[]⟩, .slice none 0 0] 31)) := (Ext.refl _).alloc _
  have hn1 : NX (w.alloc (.cells #[.int .i64 0, .int .i64 0, .string ⟨#[]⟩, .slice none 0 0] 31)) w.heap.size 0 0 ⟨#[]⟩ (.slice none 0 0) := heap_alloc_new _ _
  have hz1 : (w.alloc (.cells #[.int .i64 0, .int .i64 0, .string ⟨#[]⟩, .slice none 0 0] 31)).heap.size = w.heap.size + 1 := by simp
  have HS := Lib.hid h
  have HB := Lib.hid hb
  clear h hb hm
  go_enter Tryz.func25, Tryz.ntmps25
  go_upto_region 1 with (fail)
  generalize w.alloc (.cells #[.int .i64 0, .int .i64 0, .string ⟨#[]⟩, .slice none 0 0] 31) = w1 at *
  go_upto_region 2 with (fail)
  have hlm : (l.take m).length = m := by rw [List.length_take]; omega
  have hx2 : Ext w1 (w1.alloc (.cells #[.slice A m c, .int .i64 0] 71)) := (Ext.refl _).alloc _
  have hbk : (w1.alloc (.cells #[.slice A m c, .int .i64 0] 71)).heap[w1.heap.size]? = some (.cells #[.slice A m c, .int .i64 0] 71 (0, 0)) := heap_alloc_new _ _
  have hz2 : (w1.alloc (.cells #[.slice A m c, .int .i64 0] 71)).heap.size = w.heap.size + 2 := by simp [hz1]
  generalize w1.alloc (.cells #[.slice A m c, .int .i64 0] 71) = w2 at *
  rw [hz1] at hbk
  have hAb : 0 < l.length → ∀ x, A = some x → x.block < w.heap.size := fun h0 x hx => by
    obtain ⟨b, off, e, hb, _⟩ := HS.out.2 h0
    rw [e] at hx
    injection hx with hx
    rw [← hx]; exact hb
  have hmb : MB w2 (w.heap.size + 1) A c (l.take m) 0 := ⟨by rw [hlm]; exact hbk, by rw [hlm]; exact ((HS.out.takeN m hm1).ext hx1).ext hx2, fun n hn => HB.out n (List.mem_of_mem_take hn), fun h0 x hx => by have := hAb (by rw [hlm] at h0; omega) x hx; omega, by rw [hlm]; omega, by omega⟩
  have HC := Lib.hid (any_any (deep + 1) deep w2 (w.heap.size + 1) A c (l.take m) 0 (by omega) hmb (fun h0 x hx => by have := hAb (by rw [hlm] at h0; omega) x hx; omega) hd (by omega))
  have HX2 := Lib.hid (hx1.trans hx2)
  have HN2 := Lib.hid (hn1.mv (b := w.heap.size + 5) (Mv.of_ext hx2) (by omega))
  clear hmb hbk hx1 hx2 hn1 hlm hAb
  go_wp2_with (first | (go_at_call 46; refine (HC.out).mono ?_; rintro e w3 ⟨d, t, rfl, hr, hg, _, hm⟩; have HR := Lib.hid hr; have HG := Lib.hid hg; have HM := Lib.hid hm; obtain ⟨_, z0, z1, z2, z3, z4, z5, z6, z7⟩ := (HN2.out.mv hm (by omega)).nb; clear hr hg hm))
  refine bodyPost_ret (v := .agg #[.int .i64 d.k, .int .i64 d.n, .string d.s, .slice d.A d.m d.c]) (by simp [results, Tryz.results25, go_sem, *]) rfl ?_
  have hn := Nat.le_refl w.heap.size
  refine ⟨d, t, rfl, (HR.out.keep (by simp) fun k hk _ => ?_).mono (fun k hk _ => by omega), HG.out, ?_⟩
  · rw [heap_setCell_other _ _ _ _ (by simp only; omega), heap_setCell_other _ _ _ _ (by simp only; omega), heap_setCell_other _ _ _ _ (by simp only; omega), heap_setCell_other _ _ _ _ (by simp only; omega)]
  · exact ((((HM.out.ext w (by omega) HX2.out).setCell (p := ⟨w.heap.size, 0, none⟩) hn _).setCell (p := ⟨w.heap.size, 1, none⟩) hn _).setCell (p := ⟨w.heap.size, 2, none⟩) hn _).setCell (p := ⟨w.heap.size, 3, none⟩) hn _
end Go.Proofs.YtnpenepdechkjaaGreatDoor
