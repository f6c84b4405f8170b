/- index.Merge: walked (printed by genyo.py). -/
import Derived.Test.YtdbnddmncbjobaaGreatDoorQbk
namespace Go.Proofs.YtdbnddmncbjobaaGreatDoor
section
open Go Go.RowKit Go.Maps
attribute [local go_sem] Oper.semAt_some

/-- Nothing below B but the block b has turned. -/
structure Bsd (B b : Nat) (W X : World) : Prop where
  os : X.os = W.os
  tape : X.tape = W.tape
  output : X.output = W.output
  size : W.heap.size ≤ X.heap.size
  block : ∀ j, j < B → j ≠ b → X.heap[j]? = W.heap[j]?
theorem Bsd.refl (B b : Nat) (W : World) : Bsd B b W W := ⟨rfl, rfl, rfl, Nat.le_refl _, fun _ _ _ => rfl⟩
theorem Bsd.ext {B b : Nat} {W X : World} (h : Bsd B b W X) (hB : B ≤ W.heap.size) {Y : World} (hY : Ext X Y) : Bsd B b W Y :=
  ⟨hY.os.trans h.os, hY.tape.trans h.tape, hY.output.trans h.output, Nat.le_trans h.size hY.size, fun j hj hb => (hY.block j (by have := h.size; omega)).trans (h.block j hj hb)⟩
theorem Bsd.push {B b n : Nat} {hs : List (List UInt8 × Ct)} {W0 W X X2 : World} {k : List UInt8} {ys : List Ct} {v : Value} {D' : DV} (h : Bsd B b W0 W) (hB : B ≤ W0.heap.size) (hX : Ext W X) (hp : Pushed B b n hs W X k ys v D' X2) : Bsd B b W0 X2 :=
  have h2 := h.ext hB hX
  ⟨hp.os.trans h2.os, hp.tape.trans h2.tape, hp.output.trans h2.output, Nat.le_trans h2.size hp.size, fun j hj hb => (hp.block j (by have := h2.size; omega) (.inl hj) hb).trans (h2.block j hj hb)⟩
theorem Ext.grown {W X : World} (h : Ext W X) : W.grownBy X none := ⟨h.os, h.tape, h.output, h.size, fun j hj _ => h.block j hj⟩
def MeR (B b N : Nat) (U : Tb) (w2 : World) (s14 : Value) (W : World) : Prop := ∃ (i : Nat) (D : DV), i ≤ N ∧ s14 = .int .i64 i ∧ GMap B b i (prs (U.take i)) D W ∧ Bsd B b w2 W
set_option maxHeartbeats 4000000 in
set_option maxRecDepth 100000 in
theorem imerge_any (w : World) (A A' : Option Addr) (n n' c c' M M' : Nat) (S T : Tb) (hS : TbV w A n c S M) (hT : TbV w A' n' c' T M') (hM : M + M' ≤ 10000) :
    Calls Tryz.prog 25 #[.slice A n c, .slice A' n' c'] w fun e w' => ∃ A1 n1 c1, e = .returned (.slice A1 n1 c1) ∧ TbV w' A1 n1 c1 (mrgP S T) (M + M') ∧ Ext w w' := by
  have hmm := @run_makeMap Tryz.prog
  obtain ⟨hn, hnM, _⟩ := hS.n
  obtain ⟨hn', hnM', _⟩ := hT.n
  obtain ⟨U, hU⟩ : ∃ U, S ++ T = U := ⟨_, rfl⟩
  have HUL := Lib.hid (show U.length = n + n' by rw [← hU, List.length_append, hn, hn'])
  have HUP := Lib.hid (show (prs U).length ≤ M + M' by rw [← hU, prs_append, List.length_append]; have := hS.len; have := hT.len; omega)
  have HUK := Lib.hid (show ∀ x ∈ U, x.1.length ≤ 1000 ∧ x.2 ≠ [] by
    rw [← hU]; intro x hx
    rcases List.mem_append.1 hx with hx | hx
    · exact ⟨hS.key x hx, hS.reg.some x hx⟩
    · exact ⟨hT.key x hx, hT.reg.some x hx⟩)
  have HMR := Lib.hid (show tabP (prs U) = mrgP S T by unfold mrgP; rw [← hU, prs_append])
  obtain ⟨b, hb⟩ : ∃ b, w.heap.size = b := ⟨_, rfl⟩
  obtain ⟨w0, hw0⟩ : ∃ w0, w.alloc (.map #[] 0) = w0 := ⟨_, rfl⟩
  have hx0 : Ext w w0 := by rw [← hw0]; exact (Ext.refl w).alloc _
  have hg0 : GMap (b + 1) b 0 [] (.map []) w0 := by rw [← hw0, ← hb]; exact GMap.made w
  obtain ⟨g, hg⟩ : ∃ g, w0.heap.size = g := ⟨_, rfl⟩
  have hgb : g = b + 1 := by rw [← hg, ← hw0, ← hb]; simp
  subst hgb
  obtain ⟨w1, hw1⟩ : ∃ w1, w0.alloc (.cells #[.slice A n c, .slice A' n' c'] 33) = w1 := ⟨_, rfl⟩
  have hx1 : Ext w0 w1 := by rw [← hw1]; exact (Ext.refl w0).alloc _
  have hG : w1.heap[b + 1]? = some (.cells #[.slice A n c, .slice A' n' c'] 33 (0, 0)) := by rw [← hw1, ← hg]; exact heap_alloc_new _ _
  have HCAT := Lib.hid (cat70 kIt kIt_sz (fun j => j < b) w1 (b + 1) A A' n n' c c' S T (Lay.row_ext (Lay.row_mono hS.row fun j _ hj => by rw [← hb]; exact hj) (hx0.trans hx1)) (Lay.row_ext (Lay.row_mono hT.row fun j _ hj => by rw [← hb]; exact hj) (hx0.trans hx1)) (by omega) (by omega) (lt_of_block hG) (cell_of hG (i := 0) rfl) (cell_of hG (i := 1) rfl))
  rw [hU] at HCAT
  have HG0 := Lib.hid hg0
  have HX0 := Lib.hid hx0
  have HX1 := Lib.hid hx1
  have HGB := Lib.hid hG
  have hb1 : b + 1 ≤ w1.heap.size := by have := hx1.lt; omega
  have HB1 := Lib.hid hb1
  obtain ⟨N, hN⟩ : ∃ N, n + n' = N := ⟨_, rfl⟩
  have HN := Lib.hid hN
  have HWB := Lib.hid hb
  clear hS hT hn hn' hU hg0 hx0 hx1 hG hb1
  go_enter Tryz.func25, Tryz.ntmps25
  go_wp2_with (first
    | (go_at_call 70; refine (HCAT.out).mono ?_; rintro e w2 ⟨A1, c1, rfl, ho, hx2⟩; have HO := Lib.hid ho; have HX2 := Lib.hid hx2; clear ho hx2))
  rw [HUL.out, HN.out] at HO ⊢
  obtain ⟨B, hB⟩ : ∃ B, w2.heap.size = B := ⟨_, rfl⟩
  have hBb : b + 1 < B := by have := HX2.out.lt; have := lt_of_block HGB.out; omega
  have hgm := ((HG0.out.keep (HX1.out.trans HX2.out).grown).raise (B' := B) (by omega))
  have HRU := Lib.hid (show kIt.row w2 (fun j => j < B ∧ j ≠ b) A1 N U from by
    obtain ⟨A9, c9, e9, _, hr9⟩ := Lay.own_row HO.out
    have hlt := Lay.own_lt HO.out
    obtain ⟨rfl, e2, _⟩ := Value.slice.inj e9
    rw [← e2] at hr9
    refine Lay.row_mono hr9 fun j hj hjl => ⟨by omega, ?_⟩
    rcases hj with hj | hj
    · omega
    · have := (hlt j hj).1; have := HB1.out; omega)
  have HXB := Lib.hid (show Ext w w2 from HX0.out.trans (HX1.out.trans HX2.out))
  have HBB := Lib.hid (And.intro hBb hB)
  have HG2 := Lib.hid hgm
  have hN4 : N ≤ 10000 := by have := HN.out; omega
  clear hgm hBb hB HG0 HO HX0 HX1 HX2 HCAT HGB HB1
  go_loopw [7, 14] (fun _ s14 W => MeR B b N U w2 s14 W) (fun _ s14 _ => toM N s14)
  case atStart => exact ⟨0, .map [], by omega, rfl, HG2.out, Bsd.refl _ _ _⟩
  case round =>
    obtain ⟨i, D, hi, rfl, hgm, hbs⟩ := hrel
    have HGM := Lib.hid hgm
    have HBS := Lib.hid hbs
    clear hgm hbs
    have hw1' : IntKind.i64.wrap ((i : Int) + 1) = (i : Int) + 1 := IntWalk.i64_in _ (by omega)
    by_cases hlt : i < N
    case neg =>
      have hni : ¬ ((i : Int) < (N : Int)) := by omega
      have hti : U.take i = U := List.take_of_length_le (by rw [HUL.out, HN.out]; omega)
      have hgm9 := HGM.out
      rw [hti] at hgm9
      have hBw : B ≤ wr.heap.size := by have := HBB.out.2; have := HBS.out.size; omega
      have HIT := Lib.hid (items_any wr B b i (prs U) D hgm9 hBw (by have := HUP.out; omega) (fun h hh => by
        obtain ⟨l, hl, _⟩ := (mem_prs U h.1 h.2).1 hh
        exact (HUK.out _ hl).1))
      clear hgm9 hti hBw
      go_wp2_with (first | (go_at_call 57; refine (HIT.out).mono ?_; rintro e w5 ⟨A5, m5, c5, rfl, hT5, hb5⟩; have HT5 := Lib.hid hT5; have HB5 := Lib.hid hb5; clear hT5 hb5))
      go_ret
      refine ⟨A5, m5, c5, rfl, by rw [← HMR.out]; exact HT5.out.mono HUP.out, ?_⟩
      have h1 := HB5.out
      have h2 := HBS.out
      have h3 := HXB.out
      exact ⟨h1.os.trans (h2.os.trans h3.os), h1.tape.trans (h2.tape.trans h3.tape), h1.output.trans (h2.output.trans h3.output), Nat.le_trans h3.size (Nat.le_trans h2.size h1.size), fun j hj => by
        have hjb : j < b := by rw [← HWB.out]; exact hj
        have := HBB.out.1
        exact (h1.block j (by omega)).trans ((h2.block j (by omega) (by omega)).trans (h3.block j hj))⟩
    have hI : (i : Int) < (N : Int) := by omega
    obtain ⟨x, hx⟩ : ∃ x, U[i]? = some x := ⟨_, List.getElem?_eq_getElem (by rw [HUL.out, HN.out]; exact hlt)⟩
    have hxm := HUK.out x (List.mem_of_getElem? hx)
    have hru : kIt.row wr (fun j => j < B ∧ j ≠ b) A1 N U := Lay.row_keep HRU.out HBS.out.size fun j hj _ => HBS.out.block j hj.1 hj.2
    obtain ⟨gb, off, A2, n2, c2, rfl, hgbl, a0, a1, hnc2, hr2⟩ := it_at hru hx
    have hY0 : ∀ o, (wr.alloc o).cell? ⟨gb, off + i * 2, none⟩ = some (.string ⟨x.1.toArray⟩) := fun o => (((Ext.refl wr).alloc o).cells.1 gb _ hgbl).trans a0
    have hY1 : ∀ o, (wr.alloc o).cell? ⟨gb, off + i * 2 + 1, none⟩ = some (.slice A2 n2 c2) := fun o => (((Ext.refl wr).alloc o).cells.1 gb _ hgbl).trans a1
    obtain ⟨z, hz⟩ : ∃ z, wr.heap.size = z := ⟨_, rfl⟩
    obtain ⟨w3, hw3⟩ : ∃ w3, wr.alloc (.cells #[.string ⟨x.1.toArray⟩, .slice A2 n2 c2] 99) = w3 := ⟨_, rfl⟩
    have hx3 : Ext wr w3 := by rw [← hw3]; exact (Ext.refl wr).alloc _
    have hB3 : w3.heap[z]? = some (.cells #[.string ⟨x.1.toArray⟩, .slice A2 n2 c2] 99 (0, 0)) := by rw [← hw3, ← hz]; exact heap_alloc_new _ _
    have hzl := lt_of_block hB3
    have hBw : B ≤ wr.heap.size := by have := HBB.out.2; have := HBS.out.size; omega
    have htk := prs_take hx
    have htl := prs_take_le U (i + 1)
    have htl2 := prs_take_le U i
    obtain ⟨v, hlook, hpush⟩ := GMap.push HGM.out hBw (k := x.1) (by unfold maxLen; omega) (by omega) (by have := HUP.out; omega)
    obtain ⟨A5, m5, c5, X1, hrun, hmap1, hs1, hk1, D', X2, hrun2, hp⟩ := hpush w3.drew hx3.drew.grown _ A2 n2 c2 x.2 (Lay.row_ext hr2 hx3.drew) hxm.2 (by rw [htk, List.length_append, List.length_map] at htl; have := HUP.out; omega)
    have hzb : z ≠ b := by have := HBB.out.1; omega
    have HS := Lib.hid (show w3.drew.cell? ⟨z, 0, none⟩ = some (.string ⟨x.1.toArray⟩) ∧ w3.drew.cell? ⟨z, 1, none⟩ = some (.slice A2 n2 c2) ∧ (Instr.lookup 105 (.map (some b)) (.string ⟨x.1.toArray⟩) false).run Tryz.prog w3.drew = .ok v w3.drew from
      ⟨cell_of (W := w3.drew) hB3 (i := 0) rfl, cell_of (W := w3.drew) hB3 (i := 1) rfl, hlook _ (HGM.out.own.kept hx3.drew.grown (by simp))⟩)
    have HS1 := Lib.hid (show X1.cell? ⟨z, 0, none⟩ = some (.string ⟨x.1.toArray⟩) ∧ X1.cell? ⟨z, 1, none⟩ = some (.slice A2 n2 c2) ∧ (Instr.lookup 105 (.map (some b)) (.string ⟨x.1.toArray⟩) false).run Tryz.prog X1 = .ok v X1 from by
      have h9 : X1.heap[z]? = _ := (hk1 z hzl (.inr (by omega)) hzb).trans hB3
      exact ⟨cell_of h9 (i := 0) rfl, cell_of h9 (i := 1) rfl, hlook _ hmap1⟩)
    have RUN := Lib.hid hrun
    have RUN2 := Lib.hid hrun2
    have HREL := Lib.hid (show MeR B b N U w2 (.int .i64 ((i : Int) + 1)) X2 from ⟨i + 1, D', by omega, by simp, by rw [htk]; exact hp.gm, HBS.out.push (by have := HBB.out.2; omega) hx3.drew hp⟩)
    clear hx hxm hru hr2 hx3 hB3 hzl hBw htk htl htl2 hlook hpush hrun hmap1 hs1 hk1 hrun2 hp hzb
    go_upto_region 5 with (fail)
    have hS0 : (fun X : World => X.cell? ⟨z, 0, none⟩ = some (.string ⟨x.1.toArray⟩) ∧ X.cell? ⟨z, 1, none⟩ = some (.slice A2 n2 c2) ∧ (Instr.lookup 105 (.map (some b)) (.string ⟨x.1.toArray⟩) false).run Tryz.prog X = .ok v X) w3.drew := HS.out
    refine wp_region_E (fun X : World => X.cell? ⟨z, 0, none⟩ = some (.string ⟨x.1.toArray⟩) ∧ X.cell? ⟨z, 1, none⟩ = some (.slice A2 n2 c2) ∧ (Instr.lookup 105 (.map (some b)) (.string ⟨x.1.toArray⟩) false).run Tryz.prog X = .ok v X) (fun _ => True) (fun i => i == 10) (by kernel_rfl) ?_
    refine wpE_takeS (i := 0) (d := some 18) (v := .map (some b)) rfl rfl (by kernel_rfl) (by kernel_rfl) (by kernel_rfl) (by kernel_rfl) (fun _ _ _ h => h) (by rfl) ?hy1 hS0 trivial ?go1
    case hy1 =>
      intro w9 hT9
      clear hT9; go_simp
    (try simp only [Act.put, List.setIfInBounds_toArray, List.set_cons_zero, List.set_cons_succ])
    refine wpE_takeS (i := 1) (d := some 19) (v := .pointer (some ⟨z, 0, none⟩)) rfl rfl (by kernel_rfl) (by kernel_rfl) (by kernel_rfl) (by kernel_rfl) (fun _ _ _ h => h) (by rfl) ?hy2 hS0 trivial ?go2
    case hy2 =>
      intro w9 hT9
      clear hT9; go_simp
    (try simp only [Act.put, List.setIfInBounds_toArray, List.set_cons_zero, List.set_cons_succ])
    refine wpE_takeS (i := 2) (d := some 20) (v := .string ⟨x.1.toArray⟩) rfl rfl (by kernel_rfl) (by kernel_rfl) (by kernel_rfl) (by kernel_rfl) (fun _ _ _ h => h) (by rfl) ?hy3 hS0 trivial ?go3
    case hy3 =>
      intro w9 hT9
      obtain ⟨s0, s1, s2⟩ := hT9; go_simp
    (try simp only [Act.put, List.setIfInBounds_toArray, List.set_cons_zero, List.set_cons_succ])
    refine wpE_takeS (i := 3) (d := some 21) (v := .map (some b)) rfl rfl (by kernel_rfl) (by kernel_rfl) (by kernel_rfl) (by kernel_rfl) (fun _ _ _ h => h) (by rfl) ?hy4 hS0 trivial ?go4
    case hy4 =>
      intro w9 hT9
      clear hT9; go_simp
    (try simp only [Act.put, List.setIfInBounds_toArray, List.set_cons_zero, List.set_cons_succ])
    refine wpE_takeS (i := 4) (d := some 22) (v := .pointer (some ⟨z, 0, none⟩)) rfl rfl (by kernel_rfl) (by kernel_rfl) (by kernel_rfl) (by kernel_rfl) (fun _ _ _ h => h) (by rfl) ?hy5 hS0 trivial ?go5
    case hy5 =>
      intro w9 hT9
      clear hT9; go_simp
    (try simp only [Act.put, List.setIfInBounds_toArray, List.set_cons_zero, List.set_cons_succ])
    refine wpE_takeS (i := 5) (d := some 23) (v := .string ⟨x.1.toArray⟩) rfl rfl (by kernel_rfl) (by kernel_rfl) (by kernel_rfl) (by kernel_rfl) (fun _ _ _ h => h) (by rfl) ?hy6 hS0 trivial ?go6
    case hy6 =>
      intro w9 hT9
      obtain ⟨s0, s1, s2⟩ := hT9; go_simp
    (try simp only [Act.put, List.setIfInBounds_toArray, List.set_cons_zero, List.set_cons_succ])
    refine wpE_takeS (i := 6) (d := some 24) (v := v) rfl rfl (by kernel_rfl) (by kernel_rfl) (by kernel_rfl) (by kernel_rfl) (fun _ _ _ h => h) (by rfl) ?hy7 hS0 trivial ?go7
    case hy7 =>
      intro w9 hT9
      obtain ⟨s0, s1, s2⟩ := hT9; go_simp
    (try simp only [Act.put, List.setIfInBounds_toArray, List.set_cons_zero, List.set_cons_succ])
    refine wpE_takeS (i := 7) (d := some 25) (v := .pointer (some ⟨z, 1, none⟩)) rfl rfl (by kernel_rfl) (by kernel_rfl) (by kernel_rfl) (by kernel_rfl) (fun _ _ _ h => h) (by rfl) ?hy8 hS0 trivial ?go8
    case hy8 =>
      intro w9 hT9
      clear hT9; go_simp
    (try simp only [Act.put, List.setIfInBounds_toArray, List.set_cons_zero, List.set_cons_succ])
    refine wpE_takeS (i := 8) (d := some 26) (v := .slice A2 n2 c2) rfl rfl (by kernel_rfl) (by kernel_rfl) (by kernel_rfl) (by kernel_rfl) (fun _ _ _ h => h) (by rfl) ?hy9 hS0 trivial ?go9
    case hy9 =>
      intro w9 hT9
      obtain ⟨s0, s1, s2⟩ := hT9; go_simp
    (try simp only [Act.put, List.setIfInBounds_toArray, List.set_cons_zero, List.set_cons_succ])
    refine wpE_all (rs := [9]) (by kernel_rfl) (by simp) ?_
    refine AllE.cons rfl (fun K hK => ?_) AllE.nil
    simp only [List.getElem_toArray, List.getElem_cons_succ, List.getElem_cons_zero]
    refine step_append_tm (s := .tmp 24) (x := .tmp 26) RUN.out rfl rfl rfl rfl rfl ?_
    refine hK.out _ _ ⟨fun _ => HS1.out, trivial⟩ (fun _ => ?_)
    clear hK K
    have hS0 := HS1.out
    (try simp only [Act.put, List.setIfInBounds_toArray, List.set_cons_zero, List.set_cons_succ])
    refine wpE_all (rs := [10]) (by kernel_rfl) (by simp) ?_
    refine AllE.cons rfl (fun K hK => ?_) AllE.nil
    simp only [List.getElem_toArray, List.getElem_cons_succ, List.getElem_cons_zero]
    refine step_mapU (m := .tmp 18) (k := .tmp 20) (x := .tmp 27) RUN2.out rfl rfl rfl rfl rfl ?_
    refine hK.out _ _ ⟨fun h => absurd h (by simp), trivial⟩ (fun _ => ?_)
    clear hK K
    (try simp only [Act.put])
    refine wpE_done (by kernel_rfl) ?_ _
    go_wp2_with fail
    go_roundw
    case rel => exact HREL.out
    case measure => simp only [toM]; omega
end
section
open Go Go.RowKit

theorem idxI_some {β : Type} (p : β → Bool) : ∀ xs : List β, 0 ≤ idxI p xs → ∃ (i : Nat) (x : β), idxI p xs = (i : Int) ∧ xs[i]? = some x ∧ p x = true := by
  intro xs
  induction xs with
  | nil => intro h; simp [idxI] at h
  | cons a r ih =>
    intro h
    rw [idxI] at h ⊢
    by_cases ha : p a = true
    · rw [if_pos ha]; exact ⟨0, a, rfl, rfl, ha⟩
    · rw [if_neg ha] at h ⊢
      cases hq : idxI p r with
      | ofNat k =>
        obtain ⟨i, x, h1, h2, h3⟩ := ih (by rw [hq]; exact Int.natCast_nonneg k)
        rw [hq] at h1
        have hk : k = i := by have h1' : (k : Int) = (i : Int) := h1; omega
        subst hk
        exact ⟨k + 1, x, by simp, by simpa using h2, h3⟩
      | negSucc k => rw [hq] at h; simp at h
end
section
open Go Go.RowKit
attribute [local go_sem] Oper.semAt_some

theorem find_idx {α : Type} (p : α → Bool) : ∀ xs : List α, xs.find? p = if 0 ≤ idxI p xs then xs[(idxI p xs).toNat]? else none
  | [] => rfl
  | x :: r => by
    have ih := find_idx p r
    rw [List.find?_cons, idxI]
    cases hp : p x with
    | true => simp
    | false =>
      simp only [Bool.false_eq_true, if_false]
      rw [ih]
      cases hi : idxI p r with
      | ofNat i =>
        have h1 : (0 : Int) ≤ Int.ofNat i := Int.natCast_nonneg i
        have h2 : (0 : Int) ≤ (i : Int) + 1 := by omega
        simp only [if_pos h1]
        rw [if_pos h2, show ((i : Int) + 1).toNat = i + 1 by omega]
        rfl
      | negSucc i =>
        rw [if_neg (by omega)]
        exact (if_neg (show ¬ (0 : Int) ≤ -1 by omega)).symm
theorem zip_idx (v : Int) : ∀ (vs : List Int) (ts : List Tx), vs.length = ts.length → ((vs.zip ts).find? fun q => q.1 == v).map (·.2) = if 0 ≤ idxI (fun u => u == v) vs then ts[(idxI (fun u => u == v) vs).toNat]? else none
  | [], _, _ => rfl
  | _ :: _, [], h => by simp at h
  | a :: vs, t :: ts, h => by
    have ih := zip_idx v vs ts (by simpa using h)
    rw [List.zip_cons_cons, List.find?_cons, idxI]
    cases hp : a == v with
    | true => simp
    | false =>
      simp only [Bool.false_eq_true, if_false]
      rw [ih]
      cases hi : idxI (fun u => u == v) vs with
      | ofNat i =>
        have h1 : (0 : Int) ≤ Int.ofNat i := Int.natCast_nonneg i
        have h2 : (0 : Int) ≤ (i : Int) + 1 := by omega
        simp only [if_pos h1]
        rw [if_pos h2, show ((i : Int) + 1).toNat = i + 1 by omega]
        rfl
      | negSucc i =>
        rw [if_neg (by omega)]
        exact (if_neg (show ¬ (0 : Int) ≤ -1 by omega)).symm
theorem textB_cases (b : Bk) (hv : ∀ x ∈ b.secs, x.vers.length = x.texts.length) (e v : Int) :
    (idxI (fun x => x.ent == e) b.secs < 0 ∧ textB b e v = none) ∨ ∃ (i : Nat) (x : Se), idxI (fun x => x.ent == e) b.secs = i ∧ b.secs[i]? = some x ∧
      ((idxI (fun u => u == v) x.vers < 0 ∧ textB b e v = none) ∨ ∃ (k : Nat) (t : Tx), idxI (fun u => u == v) x.vers = k ∧ x.vers[k]? = some v ∧ x.texts[k]? = some t ∧ textB b e v = some t) := by
  unfold textB
  rw [find_idx]
  by_cases h0 : 0 ≤ idxI (fun x => x.ent == e) b.secs
  · obtain ⟨i, x, hi, hx, _⟩ := idxI_some _ _ h0
    refine .inr ⟨i, x, hi, hx, ?_⟩
    rw [if_pos h0, hi, Int.toNat_natCast, hx, Option.bind_some, zip_idx v x.vers x.texts (hv x (List.mem_of_getElem? hx))]
    by_cases h1 : 0 ≤ idxI (fun u => u == v) x.vers
    · obtain ⟨k, u, hk, hu, huv⟩ := idxI_some _ _ h1
      have : u = v := by simpa using huv
      subst this
      obtain ⟨t, ht⟩ : ∃ t, x.texts[k]? = some t := ⟨_, List.getElem?_eq_getElem (by rw [← hv x (List.mem_of_getElem? hx)]; exact (List.getElem?_eq_some_iff.1 hu).1)⟩
      refine .inr ⟨k, t, hk, hu, ht, ?_⟩
      rw [if_pos h1, hk, Int.toNat_natCast, ht]
    · exact .inl ⟨by omega, by rw [if_neg h1]⟩
  · exact .inl ⟨by omega, by rw [if_neg h0]; rfl⟩
/-- A text, or none. -/
def TxGet (R : Nat → Prop) (w : World) (o : Option Tx) (e : Ending) (w' : World) : Prop := ∃ A n c A' n' c', e = .returned (.tuple #[.agg #[.slice A n c, .slice A' n' c'], .bool o.isSome]) ∧ n ≤ c ∧ n' ≤ c' ∧ kWs.row w' R A n (o.getD ⟨[], []⟩).paras ∧ kWs.row w' R A' n' (o.getD ⟨[], []⟩).notes ∧ Ext w w'
theorem TxGet.no {R : Nat → Prop} {w w' : World} (hx : Ext w w') : TxGet R w none (.returned (.tuple #[.agg #[.slice none 0 0, .slice none 0 0], .bool false])) w' :=
  ⟨none, 0, 0, none, 0, 0, rfl, Nat.le_refl _, Nat.le_refl _, Lay.row_nil _ _ _, Lay.row_nil _ _ _, hx⟩
structure TbxB (z : Nat) (u v : Value) (W : World) : Prop where
  b : W.heap[z]? = some (.cells #[u, v] 53 (0, 0))
theorem TbxB.set {z : Nat} {a b : Value} {W w : World} (h : TbxB z a b W) (hw : w.heap.size ≤ z) (hx : Ext w W) (u v : Value) :
    TbxB z u v ((W.setCell ⟨z, 0, none⟩ u).setCell ⟨z, 1, none⟩ v) ∧ Ext w ((W.setCell ⟨z, 0, none⟩ u).setCell ⟨z, 1, none⟩ v) ∧ ∀ j, j ≠ z → ((W.setCell ⟨z, 0, none⟩ u).setCell ⟨z, 1, none⟩ v).heap[j]? = W.heap[j]? :=
  ⟨⟨heap_setCell_same _ z 1 _ 53 _ (heap_setCell_same _ z 0 _ 53 _ h.b)⟩, (hx.setCell (p := ⟨z, 0, none⟩) hw _).setCell (p := ⟨z, 1, none⟩) hw _, fun j hj => by
    rw [heap_setCell_other _ ⟨z, 1, none⟩ j _ hj, heap_setCell_other _ ⟨z, 0, none⟩ j _ hj]⟩
set_option maxHeartbeats 4000000 in
set_option maxRecDepth 100000 in
theorem btext_any (P : Nat → Prop) (w : World) (b : Bk) (e v : Int) (A : Option Addr) (N c : Nat) (hr : kSe.row w P A N b.secs) (hs : BkS b.secs) (hv : ∀ x ∈ b.secs, x.vers.length = x.texts.length) :
    Calls Tryz.prog 52 #[.agg #[.int .i64 b.ms, .int .i64 b.ht, .slice A N c], .int .i64 e, .int .i64 v] w (TxGet (fun j => w.heap.size ≤ j) w (textB b e v)) := by
  obtain ⟨z, hz⟩ : ∃ z, w.heap.size = z := ⟨_, rfl⟩
  obtain ⟨w0, hw0⟩ : ∃ w0, (w.alloc (.cells #[.int .i64 b.ms, .int .i64 b.ht, .slice A N c] 27)).alloc (.cells #[.slice none 0 0, .slice none 0 0] 53) = w0 := ⟨_, rfl⟩
  have hx0 : Ext w w0 := by rw [← hw0]; exact ((Ext.refl w).alloc _).alloc _
  have hB0 : w0.heap[z]? = some (.cells #[.int .i64 b.ms, .int .i64 b.ht, .slice A N c] 27 (0, 0)) := by
    rw [← hw0, ← hz, heap_alloc_old _ _ _ (by simp)]; exact heap_alloc_new _ _
  have hB1 : TbxB (z + 1) (.slice none 0 0) (.slice none 0 0) w0 := ⟨by rw [← hw0, ← hz]; exact heap_alloc_at _ _ _ _ (by simp)⟩
  have HX0 := Lib.hid hx0
  have HZ := Lib.hid hz
  have HB0 := Lib.hid hB0
  have HB1 := Lib.hid hB1
  have HBS := Lib.hid hs
  have HNN := Lib.hid (show N ≤ 1000000 by rw [Lay.row_len hr]; exact hs.n)
  have HR := Lib.hid (fun X (hX : Ext w0 X) => Lay.row_ext (Lay.row_ext hr hx0) hX)
  have HFI := Lib.hid (find_any P w0 b.ms b.ht e b.secs A N c (Lay.row_ext hr hx0) (by rw [Lay.row_len hr]; exact hs.n))
  have a0 := cell_of hB0 (i := 0) rfl
  have a1 := cell_of hB0 (i := 1) rfl
  have a2 := cell_of hB0 (i := 2) rfl
  have HCA := Lib.hid (textB_cases b hv e v)
  obtain ⟨o, ho⟩ : ∃ o, textB b e v = o := ⟨_, rfl⟩
  rw [ho] at HCA ⊢
  clear hr hs hv hx0 hB0 hB1 ho
  go_enter Tryz.func52, Tryz.ntmps52
  go_upto_region 1 with (fail)
  clear hw0 hz
  rcases HCA.out with ⟨hi, rfl⟩ | ⟨i, x, hi, hx, hk⟩
  · obtain ⟨q, hq⟩ : ∃ q, idxI (fun x => x.ent == e) b.secs = q := ⟨_, rfl⟩
    rw [hq] at HFI hi
    clear hq HCA
    go_upto_region 3 with (first | (go_at_call 81; refine (HFI.out).mono ?_; rintro r w2 ⟨rfl, hx2⟩; have HX2 := Lib.hid hx2; clear hx2))
    have HT2 := Lib.hid (show TbxB (z + 1) (.slice none 0 0) (.slice none 0 0) w2 from ⟨(HX2.out.block _ (lt_of_block HB1.out.b)).trans HB1.out.b⟩)
    have f0 := frozen_of HT2.out.b 0
    have f1 := frozen_of HT2.out.b 1
    have e0 := cell_of HT2.out.b (i := 0) rfl
    have e1 := cell_of HT2.out.b (i := 1) rfl
    go_wp2_with fail
    obtain ⟨Y, hY⟩ : ∃ Y, (w2.setCell ⟨z + 1, 0, none⟩ (.slice none 0 0)).setCell ⟨z + 1, 1, none⟩ (.slice none 0 0) = Y := ⟨_, rfl⟩
    obtain ⟨g1, g2, _⟩ := HT2.out.set (w := w) (by have := HZ.out; omega) (HX0.out.trans HX2.out) (.slice none 0 0) (.slice none 0 0)
    rw [hY] at g1 g2 ⊢
    have q0 := cell_of g1.b (i := 0) rfl
    have q1 := cell_of g1.b (i := 1) rfl
    refine bodyPost_ret (v := .tuple #[.agg #[.slice none 0 0, .slice none 0 0], .bool false]) (by simp [results, Tryz.results52, go_sem, q0, q1]) rfl ?_
    exact TxGet.no g2
  rw [hi] at HFI
  have hiN : (i : Int) < (N : Int) := by have := (List.getElem?_eq_some_iff.1 hx).1; have := Lay.row_len (HR.out w0 (Ext.refl _)); omega
  have hi0 : ¬ ((i : Int) < 0) := by omega
  have HXI := Lib.hid hx
  have HKC := Lib.hid hk
  clear hi hx hk HCA
  go_upto_region 4 with (first | (go_at_call 81; refine (HFI.out).mono ?_; rintro r w2 ⟨rfl, hx2⟩; have HX2 := Lib.hid hx2; clear hx2))
  obtain ⟨bs, os, cs, rfl, hbs, _, hrep, hcs⟩ := Lay.row_at (HR.out w2 HX2.out) HXI.out
  obtain ⟨A1, n1, c1, A2, n2, c2, rfl, hn1, hn2, rv, rt⟩ := kSe_rep.1 hrep
  have s2 := hcs 2 _ rfl
  have s3 := hcs 3 _ rfl
  rw [kSe_sz] at s2 s3
  have HSC := Lib.hid (fun X (hX : Ext w2 X) => (show X.cell? ⟨bs, os + i * 4 + 2, none⟩ = some (.slice A1 n1 c1) ∧ X.cell? ⟨bs, os + i * 4 + 3, none⟩ = some (.slice A2 n2 c2) ∧ X.cell? ⟨z, 2, none⟩ = some (.slice (some ⟨bs, os, none⟩) N c) from
    ⟨(hX.cells.1 bs _ hbs).trans s2, (hX.cells.1 bs _ hbs).trans s3, cell_of (((HX2.out.trans hX).block _ (lt_of_block HB0.out)).trans HB0.out) (i := 2) rfl⟩))
  have HRT := Lib.hid (fun X (hX : Ext w2 X) => Lay.row_ext rt hX)
  have hxm := List.mem_of_getElem? HXI.out
  have HIX := Lib.hid (index_int P w2 A1 n1 c1 x.vers v rv (by rw [Lay.row_len rv]; exact HBS.out.nv x hxm))
  have hn2l := Lay.row_len rt
  clear s2 s3 rv rt hrep hcs a0 a1 a2
  obtain ⟨s2, s3, a2⟩ := HSC.out w2 (Ext.refl _)
  have HT2 := Lib.hid (fun X (hX : Ext w2 X) => (show TbxB (z + 1) (.slice none 0 0) (.slice none 0 0) X from ⟨((HX2.out.trans hX).block _ (lt_of_block HB1.out.b)).trans HB1.out.b⟩))
  rcases HKC.out with ⟨hk, rfl⟩ | ⟨k, t, hk, hkv, hkt, rfl⟩
  · obtain ⟨q, hq⟩ : ∃ q, idxI (fun u => u == v) x.vers = q := ⟨_, rfl⟩
    rw [hq] at HIX hk
    clear hq HKC
    go_upto_region 6 with (first | (go_at_call 107; refine (HIX.out).mono ?_; rintro r w3 ⟨rfl, rfl⟩))
    have hT2 := HT2.out w2 (Ext.refl _)
    have f0 := frozen_of hT2.b 0
    have f1 := frozen_of hT2.b 1
    have e0 := cell_of hT2.b (i := 0) rfl
    have e1 := cell_of hT2.b (i := 1) rfl
    go_wp2_with fail
    obtain ⟨Y, hY⟩ : ∃ Y, (w2.setCell ⟨z + 1, 0, none⟩ (.slice none 0 0)).setCell ⟨z + 1, 1, none⟩ (.slice none 0 0) = Y := ⟨_, rfl⟩
    obtain ⟨g1, g2, _⟩ := hT2.set (w := w) (by have := HZ.out; omega) (HX0.out.trans HX2.out) (.slice none 0 0) (.slice none 0 0)
    rw [hY] at g1 g2 ⊢
    have q0 := cell_of g1.b (i := 0) rfl
    have q1 := cell_of g1.b (i := 1) rfl
    refine bodyPost_ret (v := .tuple #[.agg #[.slice none 0 0, .slice none 0 0], .bool false]) (by simp [results, Tryz.results52, go_sem, q0, q1]) rfl ?_
    exact TxGet.no g2
  rw [hk] at HIX
  have hkn : (k : Int) < (n2 : Int) := by have := (List.getElem?_eq_some_iff.1 hkt).1; omega
  have hk0 : ¬ ((k : Int) < 0) := by omega
  have HKT := Lib.hid hkt
  clear hk hkv hkt HKC
  go_upto_region 7 with (first | (go_at_call 107; refine (HIX.out).mono ?_; rintro r w3 ⟨rfl, rfl⟩))
  obtain ⟨bt, ot, ct, rfl, hbt, _, hrept, hct⟩ := Lay.row_at (HRT.out w2 (Ext.refl _)) HKT.out
  obtain ⟨A5, n5, c5, A6, n6, c6, rfl, hn5, hn6, r5, r6⟩ := kTx_rep.1 hrept
  have t0 := hct 0 _ rfl
  have t1 := hct 1 _ rfl
  rw [kTx_sz] at t0 t1
  rw [Nat.add_zero] at t0
  have hts := HBS.out.tx x hxm t (List.mem_of_getElem? HKT.out)
  have HTX := Lib.hid (text_any P w2 t A5 A6 n5 n6 c5 c6 r5 r6 (by rw [Lay.row_len r5]; exact hts.np) (by rw [Lay.row_len r6]; exact hts.nn) hts.len)
  clear r5 r6 hrept hct hts hxm
  go_wp2_with (first | (go_at_call 84; refine (HTX.out).mono ?_; rintro r w4 ⟨val, rfl, hval, hx4⟩; obtain ⟨A7, n7, c7, A8, n8, c8, rfl, hn7, hn8, r7, r8⟩ := hval; have HX4 := Lib.hid hx4; have HR7 := Lib.hid r7; have HR8 := Lib.hid r8; have hT4 := HT2.out w4 hx4; have f0 := frozen_of hT4.b 0; have f1 := frozen_of hT4.b 1; have e0 := cell_of hT4.b (i := 0) rfl; have e1 := cell_of hT4.b (i := 1) rfl; clear hx4 r7 r8))
  obtain ⟨Y, hY⟩ : ∃ Y, (w4.setCell ⟨z + 1, 0, none⟩ (.slice A7 n7 c7)).setCell ⟨z + 1, 1, none⟩ (.slice A8 n8 c8) = Y := ⟨_, rfl⟩
  obtain ⟨g1, g2, g3⟩ := hT4.set (w := w) (by have := HZ.out; omega) (HX0.out.trans (HX2.out.trans HX4.out)) (.slice A7 n7 c7) (.slice A8 n8 c8)
  have hsz : ((w4.setCell ⟨z + 1, 0, none⟩ (.slice A7 n7 c7)).setCell ⟨z + 1, 1, none⟩ (.slice A8 n8 c8)).heap.size = w4.heap.size := by simp
  rw [hY] at g1 g2 g3 hsz ⊢
  have hzl : z + 1 < w2.heap.size := lt_of_block (HT2.out w2 (Ext.refl _)).b
  have q0 := cell_of g1.b (i := 0) rfl
  have q1 := cell_of g1.b (i := 1) rfl
  refine bodyPost_ret (v := .tuple #[.agg #[.slice A7 n7 c7, .slice A8 n8 c8], .bool true]) (by simp [results, Tryz.results52, go_sem, q0, q1]) rfl ?_
  exact ⟨A7, n7, c7, A8, n8, c8, rfl, hn7, hn8, Lay.row_mono (Lay.row_keep HR7.out (by omega) fun j hj _ => g3 j (by omega)) fun j hj _ => by have := HZ.out; omega, Lay.row_mono (Lay.row_keep HR8.out (by omega) fun j hj _ => g3 j (by omega)) fun j hj _ => by have := HZ.out; omega, g2⟩
end
section
open Go Go.RowKit

theorem notesOf_mem {R : Ln → Prop} {notes : List (List Ln)} (hn : ∀ ls ∈ notes, ∀ l ∈ ls, R l) (x : Ln) : ∀ l ∈ notesOf notes x, R l := by
  intro l hl
  unfold notesOf at hl
  rw [List.mem_flatMap] at hl
  obtain ⟨n, _, h1⟩ := hl
  cases h2 : notes[n.toNat]? with
  | none => rw [h2] at h1; simp at h1
  | some ls => rw [h2] at h1; exact hn ls (List.mem_of_getElem? h2) l h1
theorem fillP_mem {R : Ln → Prop} (h : Int) {notes : List (List Ln)} (hn : ∀ ls ∈ notes, ∀ l ∈ ls, R l) : ∀ (body q : List Ln) (lines : Nat) (shown : Int), (∀ l ∈ q, R l) → ∀ l ∈ (fillP h notes body q lines shown).2.1, R l := by
  intro body
  induction body with
  | nil => intro q lines shown hq l hl; exact hq l hl
  | cons x r ih =>
    intro q lines shown hq l hl
    unfold fillP at hl
    split at hl
    · exact ih _ _ _ (fun y hy => by
        rcases List.mem_append.1 hy with hy | hy
        · exact hq y hy
        · exact notesOf_mem hn x y hy) l hl
    · exact hq l hl
theorem setF_mem {R : Ln → Prop} (h : Int) {notes : List (List Ln)} (hn : ∀ ls ∈ notes, ∀ l ∈ ls, R l) : ∀ (f : Nat) (body q : List Ln), (∀ l ∈ body, R l) → (∀ l ∈ q, R l) → ∀ pg ∈ setF h notes f body q, ∀ l ∈ pg.1 ++ pg.2, R l := by
  intro f
  induction f with
  | zero => intro body q _ _ pg hp; simp [setF] at hp
  | succ f ih =>
    intro body q hb hq pg hp
    unfold setF at hp
    split at hp
    · simp at hp
    · have hm := fillP_mem h hn body q 0 (min (q.length : Int) (h - 1)) hq
      rcases List.mem_cons.1 hp with rfl | hp
      · intro l hl
        rcases List.mem_append.1 hl with hl | hl
        · exact hb l (List.mem_of_mem_take hl)
        · exact hm l (List.mem_of_mem_take hl)
      · exact ih _ _ (fun l hl => hb l (List.mem_of_mem_drop hl)) (fun l hl => hm l (List.mem_of_mem_drop hl)) pg hp
theorem textP_lns {t : Tx} {m h : Int} (hT : TxP t m h) : ∀ pg ∈ (textP t m h).2, ∀ l ∈ pg.1 ++ pg.2, l.gaps.length ≤ 1000000 ∧ l.nts.length ≤ 1000000 := by
  rw [hT.eq]
  unfold setPg
  rw [if_neg (by rw [hT.pg]; simp)]
  have hb : ∀ {L : List Ln}, LnsB L → ∀ l ∈ L, l.gaps.length ≤ 1000000 ∧ l.nts.length ≤ 1000000 := fun hl l h => by have := hl l h; omega
  exact setF_mem h (fun ls hls => hb (hT.lnn ls hls)) _ _ _ (hb hT.lnb) (fun l hl => by simp at hl)
theorem OkB.lns {b : Bk} {N V : Nat} (h : OkB b N V) : ∀ p ∈ pagesB b, (∀ l ∈ p.body, l.gaps.length ≤ 1000000 ∧ l.nts.length ≤ 1000000) ∧ (∀ l ∈ p.nts, l.gaps.length ≤ 1000000 ∧ l.nts.length ≤ 1000000) := by
  intro p hp
  have := pagesS_all (fun x y => ∀ l ∈ x ++ y, l.gaps.length ≤ 1000000 ∧ l.nts.length ≤ 1000000) b.ms b.ht b.secs 0 (fun x hx t ht q hq => textP_lns (txP_of (h.tx x hx t ht) h.m0 h.m1 h.h0 h.h1) q hq) p hp
  exact ⟨fun l hl => this l (List.mem_append_left _ hl), fun l hl => this l (List.mem_append_right _ hl)⟩
end
end Go.Proofs.YtdbnddmncbjobaaGreatDoor