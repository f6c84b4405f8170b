/- slices.Repeat at one number; para.Gaps: walked. -/
import Derived.Test.YtdbnddmncbjobaaGreatDoorMag
import Derived.Deep.RegionLaw
import Derived.StillTailTactics
namespace Go.Proofs.YtdbnddmncbjobaaGreatDoor
section
open Go Go.RowKit
theorem size3 : (Tryz.prog.info? 3).map (·.size) = some 1 := by kernel_rfl
def ReRel (w : World) (b k : Nat) (s8 : Value) (w' : World) : Prop := ∃ j : Nat, 1 ≤ j ∧ j ≤ k ∧ s8 = .int .i64 j ∧ Ext w w' ∧ Arr w' b (List.replicate j 6 ++ List.replicate (k - j) 0)
theorem splice_six (k j m : Nat) (hm : m ≤ k - j) : splice ((List.replicate j (6 : Int) ++ List.replicate (k - j) 0).map (Value.int .i64)) j ((List.replicate m (6 : Int)).map (Value.int .i64)) = (List.replicate (j + m) (6 : Int) ++ List.replicate (k - (j + m)) 0).map (Value.int .i64) := by
 unfold splice
 apply List.ext_getElem?
 intro i
 simp only [List.map_append, List.map_replicate, List.getElem?_append, List.getElem?_replicate, List.length_replicate, List.getElem?_take, List.getElem?_drop, List.length_take, List.length_append]
 repeat' split
 all_goals first | rfl | (exfalso; omega)
set_option maxHeartbeats 4000000 in
set_option maxRecDepth 100000 in
theorem repeat_any (w : World) (g k : Nat) (hk : 1 ≤ k) (hk2 : k ≤ 1000) (hg : w.cell? ⟨g, 0, none⟩ = some (.int .i64 6)) :
  Calls Tryz.prog 241 #[.slice (some ⟨g, 0, none⟩) 1 1, .int .i64 k] w (fun e w' => ∃ b, e = .returned (.slice (some ⟨b, 0, none⟩) k k) ∧ w.heap.size ≤ b ∧ Arr w' b (List.replicate k 6) ∧ Ext w w') := by
 have HM := Hd (fun W => show Calls Tryz.prog 249 #[.int .u64 1, .int .u64 (k : Int)] W (fun e w' => e = .returned (.tuple #[.int .u64 0, .int .u64 (k : Int)]) ∧ w' = W) from by
  have := Tryz.bits_Mul 1 k (by omega) (by omega) W
  rwa [show (1 * k / 18446744073709551616 : Nat) = 0 by omega, show (1 * k % 18446744073709551616 : Nat) = k by omega] at this)
 obtain ⟨Z, hz, hmk⟩ := mkInts k (by omega) (k : Int) rfl
 have hB0 := hz (w.alloc (.cells Z 3)) w.heap.size (heap_alloc_new w _)
 unfold Arr at hB0
 have HB0 := Hd hB0
 have HGC := Hd hg
 have HGB := Hd (World.block_lt_of_cell? w _ hg)
 have HSRC := Hd (show ∀ j v, ((List.replicate 1 (6 : Int)).map (Value.int .i64))[j]? = some v → (w.alloc (.cells Z 3)).cell? ((⟨g, 0, none⟩ : Addr).add j) = some v from fun j v hj => by
  cases j with
  | zero =>
   simp only [List.replicate_one, List.map_cons, List.map_nil, List.getElem?_cons_zero, Option.some.injEq] at hj
   subst hj
   rw [Addr.add_lit]
   exact (((Ext.refl w).alloc (.cells Z 3)).cells.1 g 0 HGB.out).trans hg
  | succ j => simp at hj)
 clear hz hB0 hg
 go_enter Tryz.func241, Tryz.ntmps241
 go_wp2_with (first | (go_at_call 249; refine (HM.out _).mono ?_; rintro e w1 ⟨rfl, hw1⟩; obtain rfl := hw1.symm) | (refine wpList_copy_splice rfl (.tmp 31) (.tmp 32) 22 22 rfl 3 Tryz.underlying22 size3 _ _ k k 1 1 rfl rfl w.heap.size 0 ((List.replicate k (0 : Int)).map (Value.int .i64)) 3 HB0.out ((List.replicate 1 (6 : Int)).map (Value.int .i64)) (by rw [List.length_map, List.length_replicate]; exact (Nat.min_eq_left hk).symm) (fun _ => ⟨rfl, ⟨g, 0, none⟩, rfl, HSRC.out⟩) (by simp; omega) (by simp [Value.oneCell']) w.heap.size w ((Below.refl _ _).alloc (Nat.le_refl _) _) (Nat.le_refl _) ?_; intro w2 hg2 hb2))
 have hS := splice_six k 0 1 (by omega)
 simp only [List.replicate_zero, List.nil_append, Nat.sub_zero, Nat.zero_add] at hS
 rw [hS] at hg2
 have HB2 := Hd (show Arr w2 w.heap.size (List.replicate 1 6 ++ List.replicate (k - 1) 0) from hg2.out)
 have HX2 := Hd (show Ext w w2 from hb2)
 clear hS hg2 hb2
 go_loopw [8] (fun s8 w' => ReRel w w.heap.size k s8 w') (fun s8 _ => toM k s8)
 case atStart => exact ⟨1, by omega, hk, rfl, HX2.out, HB2.out⟩
 obtain ⟨j, hj1, hj2, rfl, hx, hb⟩ := hrel
 have HX := Hd hx
 have HB := Hd hb
 clear hx hb HX2 HB2
 by_cases hlt : j < k
 case neg =>
  obtain rfl : j = k := by omega
  have hni : ¬ ((j : Int) < (j : Int)) := by omega
  go_wp2_with fail
  go_ret
  exact ⟨w.heap.size, rfl, Nat.le_refl _, by have := HB.out; rwa [Nat.sub_self, List.replicate_zero, List.append_nil] at this, HX.out⟩
 have hI : (j : Int) < (k : Int) := by omega
 go_wp2_with fail
 obtain ⟨d, hd⟩ : ∃ d, Nat.min j (k - j) = d := ⟨_, rfl⟩
 have hd2 : min j (k - j) = d := hd
 have hd4 : 1 ≤ d := by omega
 have hd5 : d ≤ k - j := by omega
 have hd6 : d ≤ j := by omega
 have HSR := Hd (show ∀ W : World, ∀ i v, ((List.replicate d (6 : Int)).map (Value.int .i64))[i]? = some v → W.heap[w.heap.size]? = wr.heap[w.heap.size]? → W.cell? ((⟨w.heap.size, 0, none⟩ : Addr).add i) = some v from fun W i v hv hW => by
  rw [List.getElem?_map, List.getElem?_replicate] at hv
  split at hv
  ·next hi =>
   simp only [Option.map_some, Option.some.injEq] at hv
   subst hv
   rw [Addr.add_lit, Nat.zero_add]
   exact (HB.out.keep hW).cell (i := i) (x := 6) (by rw [List.getElem?_append_left (by rw [List.length_replicate]; omega), List.getElem?_replicate, if_pos (by omega)])
  ·cases hv)
 have HFI := Hd (show j + (List.map (Value.int IntKind.i64) (List.replicate d (6 : Int))).length ≤ ((List.replicate j (6 : Int) ++ List.replicate (k - j) 0).map (Value.int .i64)).length by rw [List.length_map, List.length_map, List.length_append, List.length_replicate, List.length_replicate, List.length_replicate]; omega)
 have HON := Hd (show ∀ v ∈ (List.map (Value.int IntKind.i64) (List.replicate d (6 : Int))), v.oneCell' = true by
  intro v hv
  obtain ⟨x, _, rfl⟩ := List.mem_map.1 hv
  rfl)
 have HMI := Hd (show (List.map (Value.int IntKind.i64) (List.replicate d (6 : Int))).length = Nat.min j (k - j) by rw [List.length_map, List.length_replicate]; exact hd.symm)
 have HBD := Hd (show wr.drew.heap[w.heap.size]? = some (.cells ((List.replicate j (6 : Int) ++ List.replicate (k - j) 0).map (Value.int .i64)).toArray 3 (0, 0)) by have := HB.out; unfold Arr at this; exact this)
 have hwr : IntKind.i64.wrap ((j : Int) + (d : Int)) = (j : Int) + (d : Int) := IntWalk.i64_in _ (by omega)
 clear hd hd2
 go_region_held3 (fun _ => True) (trivial) (first | (refine step_copy_splice rfl (.tmp 41) (.tmp 44) 22 22 rfl 3 Tryz.underlying22 size3 (some ⟨w.heap.size, j, none⟩) (some ⟨w.heap.size, 0, none⟩) (k - j) (k - j) j k (by simp [Act.eval]; omega) (by simp [Act.eval]) w.heap.size j ((List.replicate j (6 : Int) ++ List.replicate (k - j) 0).map (Value.int .i64)) 3 HBD.out ((List.replicate d (6 : Int)).map (Value.int .i64)) HMI.out (fun _ => ⟨rfl, ⟨w.heap.size, 0, none⟩, rfl, fun i v hv => HSR.out _ i v hv rfl⟩) HFI.out HON.out w.heap.size w (Ext.drew HX.out) (Nat.le_refl _) ?_; intro w3 hg3 hb3))
 rw [splice_six k j d hd5] at hg3
 have HB3 := Hd (show Arr w3 w.heap.size (List.replicate (j + d) 6 ++ List.replicate (k - (j + d)) 0) from hg3.out)
 have HX3 := Hd (show Ext w w3 from hb3)
 clear hg3 hb3
 go_wp2_with fail
 go_roundw
 case rel => exact ⟨j + d, by omega, by omega, by simp, HX3.out, HB3.out⟩
 case measure => simp only [toM]; omega
end
section
open Go Go.RowKit
theorem gcells_ints (l : List Int) : gcells ccf (l.map iCs) = l.map (Value.int .i64) := by
 induction l with
 | nil => rfl
 | cons a r ih =>
  show ccf (iCs a) ++ gcells ccf (r.map iCs) = _
  rw [ih]; rfl
theorem Arr.own {w : World} {b : Nat} {l : List Int} (h : Arr w b l) (hl : l.length ≤ 1000000) {base : Nat} (hb : base ≤ b) (P : Nat → Prop) : kInt.own 3 w base P (.slice (some ⟨b, 0, none⟩) l.length l.length) l := by
 refine ⟨l.map iCs, ⟨by rw [gcells_len ccf_len], .inr ⟨b, l.length, _, by rw [List.length_map], hb, h, by rw [List.length_map]; exact Nat.le_refl _, by simp only [maxLen]; omega, by simp [kInt], ?_⟩⟩, List.length_map .., fun i d x hd hx => ?_⟩
 ·rw [gcells_ints, List.length_map, List.take_of_length_le]
  simp [kInt]
 ·obtain ⟨y, hy, rfl⟩ := iCs_at hd
  rw [hy] at hx
  injection hx with hx
  subst hx
  rfl
def gapL (s : Int) (k i : Nat) : List Int := (gapsGo s k k 0).take i ++ List.replicate (k - i) 6
theorem gapL_set (s : Int) (k i : Nat) (hi : i < k) (x : Int) (hx : x = gapAt s k i) : (gapL s k i).set i x = gapL s k (i + 1) := by
 subst hx
 have hl := gapsGo_len s k k 0
 apply List.ext_getElem?
 intro j
 unfold gapL
 have hg : ∀ j, j < k → (gapsGo s k k 0)[j]? = some (gapAt s k j) := fun j hj => by
  have := gapsGo_at s k k 0 j hj
  rw [Nat.zero_add] at this
  exact this
 have hn : ∀ j, k ≤ j → (gapsGo s k k 0)[j]? = none := fun j hj => List.getElem?_eq_none (by omega)
 simp only [List.getElem?_set, List.getElem?_append, List.getElem?_take, List.length_append, List.length_take, hl, List.length_replicate, List.getElem?_replicate]
 rcases Nat.lt_or_ge j k with h | h
 ·rw [hg j h]
  repeat' split
  all_goals first | rfl | (exfalso; omega) | (congr 2; omega) | (congr 2)
 ·rw [hn j h]
  repeat' split
  all_goals first | rfl | (exfalso; omega)
theorem gapL_at (s : Int) (k i : Nat) (hi : i < k) : (gapL s k i)[i]? = some 6 := by
 unfold gapL
 rw [List.getElem?_append_right (by rw [List.length_take]; omega), List.getElem?_replicate, List.length_take, gapsGo_len, if_pos (by omega)]
def GpRel (w : World) (b k : Nat) (s : Int) (s26 : Value) (w' : World) : Prop := ∃ i : Nat, i ≤ k ∧ s26 = .int .i64 i ∧ Ext w w' ∧ Arr w' b (gapL s k i)
theorem slackP_bd {m : Int} (hm0 : 0 ≤ m) (hm : m ≤ 2000) (ws : List Int) (h : Wds ws) (hl : ws.length ≤ 500) : -300000 ≤ slackP ws m ∧ slackP ws m ≤ 2006 := by
 have := slackF_bd hm0 hm ws h
 have e : slackP ws m = slackF m ws := rfl
 rw [e]; omega
set_option maxHeartbeats 4000000 in
set_option maxRecDepth 100000 in
theorem gaps_any (P : Nat → Prop) (w : World) (A : Option Addr) (n c : Nat) (ws : List Int) (m : Int) (last : Bool) (h : kInt.row w P A n ws) (hw : Wds ws) (hn : n ≤ 500) (hm0 : 0 ≤ m) (hm : m ≤ 2000) :
  Calls Tryz.prog 221 #[.slice A n c, .int .i64 m, .bool last] w (fun e w' => ∃ A' c', e = .returned (.slice A' (gapsP ws m last).length c') ∧ kInt.own 3 w' w.heap.size (fun _ => True) (.slice A' (gapsP ws m last).length c') (gapsP ws m last) ∧ Ext w w') := by
 have hl := Lay.row_len h
 rcases Nat.lt_or_ge n 2 with h1 | h1
 ·have HE := Hd (show gapsP ws m last = [] by
   have : ws.length - 1 = 0 := by omega
   unfold gapsP
   rw [this]
   cases last <;> rfl)
  have h2 : (n : Int) - 1 < 1 := by omega
  clear h hl hw
  go_enter Tryz.func221, Tryz.ntmps221
  go_wp2_with fail
  go_ret
  exact ⟨none, 0, by rw [HE.out]; rfl, by rw [HE.out]; exact Lay.own_nil _ _ _ _ _, Ext.refl _⟩
 obtain ⟨k, rfl⟩ : ∃ k, n = k + 1 := ⟨n - 1, by omega⟩
 have HLN := Hd (show ws.length - 1 = k by omega)
 have HR := Hd h
 have HREP := Hd (fun W g => repeat_any W g k (by omega) (by omega))
 have hbd := slackP_bd hm0 hm ws hw (by omega)
 have HSL := Hd (fun W (hX : Ext w W) => slack_any P W A (k + 1) c ws m (Lay.row_ext h hX) hw (by omega) hm0 hm)
 obtain ⟨s, hs⟩ : ∃ s, slackP ws m = s := ⟨_, rfl⟩
 rw [hs] at HSL hbd
 have HS := Hd hs
 have h1k : 1 ≤ (k : Int) := by omega
 have hk5 : (k : Int) ≤ 499 := by omega
 obtain ⟨hb1, hb2⟩ := hbd
 clear h hl hw hs
 cases last with
 | true =>
  go_enter Tryz.func221, Tryz.ntmps221
  go_wp2_with (first | (go_at_call 241; refine (HREP.out _ _ (by go_simp)).mono ?_; rintro e w1 ⟨b, rfl, hb, ha, hx⟩; have HA := Hd ha; have HX := Hd (((Ext.refl w).alloc _).trans hx); clear ha hx))
  go_ret
  have hg : gapsP ws m true = List.replicate k 6 := by unfold gapsP; rw [HLN.out]; rfl
  rw [hg, List.length_replicate]
  have := HA.out.own (by rw [List.length_replicate]; omega) (base := w.heap.size) (by rw [World.size_alloc] at hb; omega) (fun _ => True)
  rw [List.length_replicate] at this
  exact ⟨_, _, rfl, this, HX.out⟩
 | false =>
  obtain ⟨dv, hdv⟩ : ∃ dv, s.tdiv (k : Int) = dv := ⟨_, rfl⟩
  obtain ⟨md, hmd⟩ : ∃ md, s.tmod (k : Int) = md := ⟨_, rfl⟩
  have hdb : -300000 ≤ dv ∧ dv ≤ 300000 := by
   have := Int.natAbs_tdiv_le_natAbs s k
   rw [hdv] at this
   omega
  obtain ⟨hdb1, hdb2⟩ := hdb
  have hwd : IntKind.i64.wrap dv = dv := IntWalk.i64_in _ (by omega)
  have HGL := Hd (show gapsP ws m false = gapL s k k by
   unfold gapsP gapL
   rw [HLN.out, HS.out, Nat.sub_self, List.replicate_zero, List.append_nil, List.take_of_length_le (by rw [gapsGo_len]; exact Nat.le_refl _)]
   rfl)
  have HAT := Hd (fun i => show gapAt s k i = 6 + dv + (if (i : Int) < md then 1 else 0) by unfold gapAt; rw [hdv, hmd])
  have hk0 : ¬ (k : Int) = 0 := by omega
  have hk00 : ¬ k = 0 := by omega
  have hkb : ((k : Int) == 0) = false := by rw [beq_eq_false_iff_ne]; exact hk0
  have hw6 : IntKind.i64.wrap (6 + dv) = 6 + dv := IntWalk.i64_in _ (by omega)
  go_enter Tryz.func221, Tryz.ntmps221
  go_wp2_with (first | (go_at_call 241; refine (HREP.out _ _ (by go_simp)).mono ?_; rintro e w1 ⟨b, rfl, hb, ha, hx⟩; have HA := Hd ha; have HX := Hd (((Ext.refl w).alloc _).trans hx); clear ha hx) | (go_at_call 242; refine (HSL.out _ HX.out).mono ?_; rintro e w2 ⟨rfl, hw2⟩; obtain rfl := hw2.symm))
  rw [World.size_alloc] at hb
  go_loopw [10, 26] (fun _ s26 w' => GpRel w b k s s26 w') (fun _ s26 _ => toM k s26)
  case atStart => exact ⟨0, by omega, rfl, HX.out, HA.out⟩
  obtain ⟨i, hi, rfl, hx, ha⟩ := hrel
  have HXr := Hd hx
  have HAr := Hd ha
  clear hx ha HX HA
  by_cases hlt : i < k
  case neg =>
   obtain rfl : i = k := by omega
   have hni : ¬ ((i : Int) < (i : Int)) := by omega
   go_wp2_with fail
   go_ret
   rw [HGL.out]
   have hlen : (gapL s i i).length = i := by unfold gapL; rw [List.length_append, List.length_take, gapsGo_len, List.length_replicate]; omega
   have := HAr.out.own (by omega) (base := w.heap.size) (by omega) (fun _ => True)
   rw [hlen] at this ⊢
   exact ⟨_, _, rfl, this, HXr.out⟩
  have hI : (i : Int) < (k : Int) := by omega
  have hc6 := HAr.out.cell (gapL_at s k i hlt)
  have hfz := HAr.out.frozen i
  go_wp2_with fail
  by_cases hmdi : (i : Int) < md
  ·have HA1 := Hd ((HAr.out.set i (6 + dv)).set i (6 + dv + 1))
   rw [List.set_set, gapL_set s k i hlt _ (by rw [HAT.out, if_pos hmdi])] at HA1
   have HX1 := Hd ((HXr.out.setCell (p := ⟨b, i, none⟩) (by show w.heap.size ≤ b; omega) (.int .i64 (6 + dv))).setCell (p := ⟨b, i, none⟩) (by show w.heap.size ≤ b; omega) (.int .i64 (6 + dv + 1)))
   go_still_tail 9, (by kernel_rfl)
   go_wp2_with fail
   go_roundw
   case rel => exact ⟨i + 1, by omega, by simp, HX1.out.drew, HA1.out⟩
   case measure => simp only [toM]; omega
  ·have HA1 := Hd (HAr.out.set i (6 + dv))
   rw [gapL_set s k i hlt _ (by rw [HAT.out, if_neg hmdi]; omega)] at HA1
   have HX1 := Hd (HXr.out.setCell (p := ⟨b, i, none⟩) (by show w.heap.size ≤ b; omega) (.int .i64 (6 + dv)))
   go_still_tail 9, (by kernel_rfl)
   go_wp2_with fail
   go_roundw
   case rel => exact ⟨i + 1, by omega, by simp, HX1.out.drew, HA1.out⟩
   case measure => simp only [toM]; omega
end
section
open Go Go.RowKit
def wdsL (ws : List Wd) : List Int := ws.map fun w => wid w.s
def WsV (ws : List Wd) : Prop := ∀ w ∈ ws, 1 ≤ wid w.s ∧ 0 ≤ w.nt ∧ w.nt ≤ 100000
theorem WsV.wdr {ws : List Wd} (h : WsV ws) : Wdr (wdsL ws) := fun x hx => by
 obtain ⟨w, hw, rfl⟩ := List.mem_map.1 hx
 exact ⟨(h w hw).1, (wid_bd w.s).2⟩
theorem mkLines (n : Nat) (hn : n ≤ 1000000) (N : Int) (hN : N = (n : Int)) : ∃ Z : Array Value, (∀ W (b : Nat) (w : World) P, W.heap[b]? = some (.cells Z 86 (0, 0)) → w.heap.size ≤ b → kLn.own 86 W w.heap.size P (.slice (some ⟨b, 0, none⟩) n n) (List.replicate n ⟨0, 0, [], []⟩)) ∧
  ∀ W, (Instr.makeSlice 82 (.int .i64 N) (.int .i64 N)).run Tryz.prog W = .ok (.slice (some ⟨W.heap.size, 0, none⟩) n n) (W.alloc (.cells Z 86)) := by
 refine ⟨_, fun W b w P h hb => ?_, fun W => run_mk (P := Tryz.prog) Tryz.underlying82 info86 (by omega) n hn N hN W⟩
 refine own_zero (k := kLn) 86 w P ⟨0, 0, [], []⟩ [.int .i64 0, .int .i64 0, .slice none 0 0, .slice none 0 0] (fun W Q => kLn_rep.2 ⟨none, 0, 0, none, 0, 0, rfl, Nat.le_refl _, Nat.le_refl _, Lay.row_nil _ _ _, Lay.row_nil _ _ _⟩) n hn _ ?_ W b h hb
 exact made_flat #[.int .i64 0, .int .i64 0, .slice none 0 0, .slice none 0 0] (by decide) n
def SuW (w : World) (b : Nat) (ws : List Wd) (s24 : Value) (w' : World) : Prop := ∃ i : Nat, i ≤ ws.length ∧ s24 = .int .i64 i ∧ Ext w w' ∧ Arr w' b ((wdsL ws).take i ++ List.replicate (ws.length - i) 0)
theorem take_set (l : List Int) (n i : Nat) (x : Int) (hi : i < n) (h : l[i]? = some x) : (l.take i ++ List.replicate (n - i) 0).set i x = l.take (i + 1) ++ List.replicate (n - (i + 1)) 0 := by
 have hl := (List.getElem?_eq_some_iff.1 h).1
 rw [List.set_append_right _ _ (by rw [List.length_take]; omega), List.length_take, Nat.min_eq_left (by omega), Nat.sub_self, show n - i = (n - (i + 1)) + 1 by omega, List.replicate_succ, List.set_cons_zero, List.take_add_one, h]
 simp
theorem take_setL {γ : Type} (z : γ) (l : List γ) (n i : Nat) (x : γ) (hi : i < n) (h : l[i]? = some x) : (l.take i ++ List.replicate (n - i) z).set i x = l.take (i + 1) ++ List.replicate (n - (i + 1)) z := by
 have hl := (List.getElem?_eq_some_iff.1 h).1
 rw [List.set_append_right _ _ (by rw [List.length_take]; omega), List.length_take, Nat.min_eq_left (by omega), Nat.sub_self, show n - i = (n - (i + 1)) + 1 by omega, List.replicate_succ, List.set_cons_zero, List.take_add_one, h]
 simp
def SuL (w3 : World) (w : World) (g : Nat) (ls : List Nat) (LN : List Ln) (s13 s47 : Value) (w' : World) : Prop := ∃ i F : Nat, i ≤ ls.length ∧ s47 = .int .i64 i ∧ s13 = .int .i64 F ∧ F = (ls.take i).sum ∧ Mv g w3 w' ∧ kLn.own 86 w' w.heap.size (fun j => w.heap.size ≤ j) (.slice (some ⟨g, 0, none⟩) ls.length ls.length) (LN.take i ++ List.replicate (ls.length - i) ⟨0, 0, [], []⟩)
def SuN (w4 : World) (bl : Nat) (f1 f2 : Int) (gv : Value) (p : List Wd) (s76 : Value) (w' : World) : Prop := ∃ (j : Nat) (nv : Value), j ≤ p.length ∧ s76 = .int .i64 j ∧ Mv bl w4 w' ∧ w'.heap[bl]? = some (.cells #[.int .i64 f1, .int .i64 f2, gv, nv] 86 (0, 0)) ∧ kInt.own 3 w' w4.heap.size (fun _ => True) nv (ntsOf (p.take j))
theorem Mv.mv {g bl : Nat} {w3 w4 w5 : World} (h : Mv g w3 w4) (h2 : Mv bl w4 w5) (hbl : w3.heap.size ≤ bl) : Mv g w3 w5 :=
 ⟨Nat.le_trans h.size h2.size, fun k hk hl => (h2.keep k (by omega) (Nat.lt_of_lt_of_le hl h.size)).trans (h.keep k hk hl), fun w0 h0 hx => h2.ext w0 (Nat.le_trans hx.lt hbl) (h.ext w0 h0 hx)⟩
theorem Mv.app {bl : Nat} {w4 X w9 : World} (h : Mv bl w4 X) (hk : ∀ j, j < w4.heap.size → w9.heap[j]? = X.heap[j]?) (hs : X.heap.size ≤ w9.heap.size) (hb : ∀ B, B ≤ w4.heap.size → Below B X w9) : Mv bl w4 w9 :=
 ⟨Nat.le_trans h.size hs, fun k h1 h2 => (hk k h2).trans (h.keep k h1 h2), fun w0 h0 hx => Below.trans (h.ext w0 h0 hx) (hb _ hx.lt)⟩
theorem own_block {β : Type} {k : Lay β} {e : TypeId} {W : World} {base g n c : Nat} {P : Nat → Prop} {xs : List β} (h : k.own e W base P (.slice (some ⟨g, 0, none⟩) n c) xs) : ∃ cur, W.heap[g]? = some (.cells cur e (0, 0)) ∧ xs.length * k.sz ≤ cur.size := by
 obtain ⟨ds, h1, h2, _⟩ := h
 rcases h1.2 with ⟨h3, _⟩ | ⟨g', cap, cur, h3, h4, h5, h6, h7, h8, _⟩
 ·cases h3
 ·injection h3 with h3 _ h9
  injection h3 with h3
  injection h3 with h3
  subst h3
  exact ⟨cur, h5, Nat.le_trans (by rw [← h2]; exact Nat.mul_le_mul_right _ h6) (Nat.le_of_eq h8.symm)⟩
theorem fof {W : World} {g : Nat} {cur : Array Value} {e : TypeId} (h : W.heap[g]? = some (.cells cur e (0, 0))) (i : Nat) : W.frozen? ⟨g, i, none⟩ = false := by
 unfold World.frozen?
 simp only [h]
 simp
theorem cof {W : World} {g : Nat} {cur : Array Value} {e : TypeId} (h : W.heap[g]? = some (.cells cur e (0, 0))) {i : Nat} {u : Value} (hi : cur[i]? = some u) : W.cell? ⟨g, i, none⟩ = some u := by
 unfold World.cell?
 simp only [h]
 simpa using hi
theorem own_int {e : TypeId} {W : World} {base : Nat} {P Q : Nat → Prop} {v : Value} {xs : List Int} (h : kInt.own e W base P v xs) : kInt.own e W base Q v xs := by
 obtain ⟨ds, h1, h2, h3⟩ := h
 exact ⟨ds, h1, h2, fun i d x hd hx => h3 i d x hd hx⟩
theorem len_le_sum (l : List Nat) (h : ∀ x ∈ l, 1 ≤ x) : l.length ≤ l.sum := by
 induction l with
 | nil => exact Nat.le_refl _
 | cons a r ih =>
  have h1 := h a (by simp)
  have h2 := ih fun x hx => h x (List.mem_cons_of_mem _ hx)
  simp only [List.length_cons, List.sum_cons]; omega
theorem ntsOf_succ (p : List Wd) {j : Nat} {x : Wd} (h : p[j]? = some x) : ntsOf (p.take (j + 1)) = ntsOf (p.take j) ++ (if x.nt ≠ 0 then [x.nt - 1] else []) := by
 unfold ntsOf
 rw [List.take_add_one, h, List.filterMap_append]
 congr 1
 by_cases h0 : x.nt = 0 <;> simp [h0]
theorem ntsOf_len (p : List Wd) : (ntsOf p).length ≤ p.length := List.length_filterMap_le ..
set_option maxHeartbeats 8000000 in
set_option maxRecDepth 100000 in
theorem set_any (P : Nat → Prop) (w : World) (A : Option Addr) (n c : Nat) (ws : List Wd) (first m : Int) (h : kWd.row w P A n ws) (hc : n ≤ c) (hv : WsV ws) (hn : n ≤ 500) (hf0 : 0 ≤ first) (hf : first ≤ 1000000) (hm0 : 500 ≤ m) (hm : m ≤ 2000) (hL : EnvW w) :
  Calls Tryz.prog 185 #[.slice A n c, .int .i64 first, .int .i64 m] w (fun e w' => ∃ A' c', e = .returned (.slice A' (setP ws first m).length c') ∧ (setP ws first m).length ≤ c' ∧ kLn.own 86 w' w.heap.size (fun j => w.heap.size ≤ j) (.slice A' (setP ws first m).length c') (setP ws first m) ∧ Ext w w') := by
 have HL := Hd (Lay.row_len h)
 have HR := Hd h
 have HV := Hd hv
 have HENV := Hd hL
 obtain ⟨Z, hz, hmk⟩ := mkInts n (by omega) (n : Int) rfl
 have hA0 := hz (w.alloc (.cells Z 3)) w.heap.size (heap_alloc_new w _)
 have HA0 := Hd hA0
 have HGW := Hd (fun (S : List UInt8) X (hX : Ext w X) => width_any ⟨S.toArray⟩ X (HENV.out.ext hX))
 clear h hv hL hz hA0
 go_enter Tryz.func185, Tryz.ntmps185
 go_wp2_with fail
 go_loopw [8, 9, 24] (fun _ _ s24 w' => SuW w w.heap.size ws s24 w') (fun _ _ s24 _ => toM n s24)
 case atStart => exact ⟨0, by omega, rfl, (Ext.refl w).alloc _, by have := HA0.out; rw [HL.out] at this; simpa using this⟩
 obtain ⟨i, hi, rfl, hx, ha⟩ := hrel
 have HX := Hd hx
 have HA := Hd ha
 clear hx ha HA0
 by_cases hlt : i < n
 case neg => 
  obtain rfl : n = i := by have := HL.out; omega
  have hni : ¬ ((n : Int) < (n : Int)) := by omega
  have HA2 := Hd (show Arr wr w.heap.size (wdsL ws) by
   have h1 := HA.out
   rw [HL.out, Nat.sub_self, List.replicate_zero, List.append_nil, List.take_of_length_le (by unfold wdsL; rw [List.length_map]; exact Nat.le_refl _)] at h1
   exact h1)
  have HLW := Hd (show (wdsL ws).length = n by unfold wdsL; rw [List.length_map]; exact HL.out.symm)
  have hrw := HA2.out.row (fun _ => True) trivial
  rw [HLW.out] at hrw
  have HEN := Hd (ends_any (fun _ => True) wr _ n n (wdsL ws) m hrw HV.out.wdr hn hm0 hm)
  have hlo := lens_ok (m := m) hm0 HV.out.wdr.wds
  rw [HLW.out] at hlo
  obtain ⟨ls, hls⟩ : ∃ ls, lens (wdsL ws) m = ls := ⟨_, rfl⟩
  simp only [hls] at HEN hlo
  have HLS := Hd hls
  have HLO := Hd hlo
  have hL5 : ls.length ≤ 500 := by have := len_le_sum ls hlo.1; omega
  obtain ⟨ZL, hzl, hmkl⟩ := mkLines ls.length (by omega) (ls.length : Int) rfl
  have HZL := Hd hzl
  clear hrw hls hlo hzl
  go_wp2_with (first | (go_at_call 220; refine HEN.out.mono ?_; rintro e w2 ⟨Ae, ce, rfl, hoe, hx2⟩; have HOE := Hd hoe; have HX2 := Hd hx2; clear hoe hx2))
  obtain ⟨w3, hw3⟩ : ∃ w3, w2.alloc (.cells ZL 86) = w3 := ⟨_, rfl⟩
  rw [hw3]
  obtain ⟨g, hg⟩ : ∃ g, w2.heap.size = g := ⟨_, rfl⟩
  rw [hg]
  have HX3 := Hd (show Ext w2 w3 by rw [← hw3]; exact (Ext.refl w2).alloc _)
  have HXW := Hd (HX.out.trans (HX2.out.trans HX3.out))
  have hwg : w.heap.size < g := by rw [← hg]; exact Nat.lt_of_lt_of_le HA2.out.lt HX2.out.lt
  have hg3 : g < w3.heap.size := by rw [← hw3, World.size_alloc, hg]; omega
  have HO3 := Hd (HZL.out w3 g w (fun j => w.heap.size ≤ j) (by rw [← hw3, ← hg]; exact heap_alloc_new w2 _) (Nat.le_of_lt hwg))
  have HRE := Hd (show kInt.row w3 (fun j => j ≠ g) Ae ls.length (cum 0 ls) by
   obtain ⟨A9, c9, e9, _, h9⟩ := own_rowN (Q := fun j => j ≠ g) HOE.out (fun j _ hj => by omega) (fun j _ hj => by omega)
   injection e9 with e9 e10 e11
   subst e9
   rw [cum_len] at h9
   exact Lay.row_ext h9 HX3.out)
  have HRW := Hd (show kInt.row w3 (fun j => j ≠ g) (some ⟨w.heap.size, 0, none⟩) n (wdsL ws) by
   have h9 := (HA2.out.ext (HX2.out.trans HX3.out)).row (fun j => j ≠ g) (by omega)
   rwa [HLW.out] at h9)
  have HRS := Hd (show kWd.row w3 (fun j => j ≠ g) A n ws from Lay.row_ext (Lay.row_mono HR.out fun j _ hj => by omega) HXW.out)
  have HLN := Hd (show (setP ws first m).length = ls.length by rw [setP_lens]; exact congrArg List.length HLS.out)
  have HAT := Hd (fun i l (h : ls[i]? = some l) => show (setP ws first m)[i]? = some (⟨first + ((ls.take i).sum : Nat), first + (((ls.take i).sum + l : Nat) : Int), gapsP (((ws.drop (ls.take i).sum).take l).map fun w => wid w.s) m (decide (i + 1 = ls.length)), ntsOf ((ws.drop (ls.take i).sum).take l)⟩ : Ln) by
   have h9 : lens (ws.map fun w => wid w.s) m = ls := HLS.out
   unfold setP
   rw [h9]
   exact linesGo_at m ls ws first i l h)
  obtain ⟨LN, hLN⟩ : ∃ LN, setP ws first m = LN := ⟨_, rfl⟩
  rw [hLN] at HLN HAT
  have HLE := Hd hLN
  clear hw3 hLN hmkl hmk hni
  go_loopw [13, 47] (fun s13 s47 w' => SuL w3 w g ls LN s13 s47 w') (fun _ s47 _ => toM ls.length s47)
  case atStart => exact ⟨0, 0, by omega, rfl, rfl, rfl, Mv.refl _ _, by simpa using HO3.out⟩
  obtain ⟨i, F, hi, rfl, rfl, hF, hmv, ho⟩ := hrel
  have HMV := Hd hmv
  have HO := Hd ho
  have HF := Hd hF
  clear hmv ho hF HO3
  by_cases hlt2 : i < ls.length
  case neg =>
   obtain rfl : ls.length = i := by omega
   have hni : ¬ ((ls.length : Int) < (ls.length : Int)) := by omega
   have HO5 := Hd HO.out
   rw [Nat.sub_self, List.replicate_zero, List.append_nil, List.take_of_length_le (by rw [HLN.out]; exact Nat.le_refl _)] at HO5
   go_wp2_with fail
   go_ret
   rw [HLE.out]
   exact ⟨_, _, by rw [HLN.out]; rfl, Nat.le_of_eq HLN.out, by rw [HLN.out]; exact HO5.out, HMV.out.ext w (Nat.le_of_lt hwg) HXW.out⟩
  have hI2 : (i : Int) < (ls.length : Int) := by omega
  obtain ⟨l, hl⟩ : ∃ l, ls[i]? = some l := ⟨_, List.getElem?_eq_getElem hlt2⟩
  have hl1 := HLO.out.1 l (List.mem_of_getElem? hl)
  have hFl := sum_take_le ls hl
  rw [HLO.out.2, ← HF.out] at hFl
  have hce := cum_at ls 0 i l hl
  rw [← HF.out, Int.zero_add] at hce
  obtain ⟨be, oe, rfl, hbe, _, hcell⟩ := int_at (Lay.row_keep HRE.out HMV.out.size fun j hj hl => HMV.out.keep j hj hl) hce
  obtain ⟨T, hT⟩ : ∃ T, F + l = T := ⟨_, rfl⟩
  rw [hT] at hFl hcell
  have hT1 : F < T := by omega
  have hT2 : (F : Int) < (T : Int) := by omega
  have hT3 : (T : Int) ≤ (n : Int) := by omega
  have hTc : (T : Int) ≤ (c : Int) := by omega
  have hn5 : (n : Int) ≤ 500 := by omega
  have HLI := Hd hl
  have HT := Hd hT
  clear hl hce hT
  have hTF : T - F = l := by have := HT.out; omega
  obtain ⟨b0, off, cs0, rfl, hb00, hb0g, _, _⟩ := Lay.row_at (Lay.row_keep HRS.out HMV.out.size fun j hj hl => HMV.out.keep j hj hl) (show ws[F]? = some (ws[F]'(by have := HL.out; omega)) from List.getElem?_eq_getElem _)
  obtain ⟨lb, hlb⟩ : ∃ lb, ((i : Int) == (ls.length : Int) - 1) = lb := ⟨_, rfl⟩
  have HLB := Hd (show lb = decide (i + 1 = ls.length) by
   rw [← hlb]
   by_cases h9 : i + 1 = ls.length
   ·rw [decide_eq_true h9, beq_iff_eq]; omega
   ·rw [decide_eq_false h9, beq_eq_false_iff_ne]; omega)
  have HGP := Hd (fun X (hX : Mv g w3 X) => gaps_any (fun j => j ≠ g) X (some ⟨w.heap.size, F, none⟩) l l (((wdsL ws).drop F).take l) m lb (by
   have h9 := Lay.row_take (Lay.row_drop (Lay.row_keep HRW.out hX.size fun j hj hl => hX.keep j hj hl) F) l (by omega)
   rwa [show 0 + F * kInt.sz = F by rw [show kInt.sz = 1 from rfl]; omega] at h9) (fun x hx => HV.out.wdr.wds x (List.mem_of_mem_drop (List.mem_of_mem_take hx))) (by omega) (by omega) hm)
  obtain ⟨GP, hGP⟩ : ∃ GP, gapsP (((wdsL ws).drop F).take l) m lb = GP := ⟨_, rfl⟩
  rw [hGP] at HGP
  have HGE := Hd hGP
  have hgw : g < wr.heap.size := Nat.lt_of_lt_of_le hg3 HMV.out.size
  clear hGP
  go_wp2_with (first | (go_at_call 221; refine (HGP.out _ HMV.out).mono ?_; rintro e w5 ⟨Ag, cg, rfl, hog, hx5⟩; have HOG := Hd hog; have HX5 := Hd hx5; clear hog hx5))
  obtain ⟨w4, hw4⟩ : ∃ w4, w5.alloc (.cells #[.int .i64 (first + F), .int .i64 (first + T), .slice Ag GP.length cg, .slice none 0 0] 86) = w4 := ⟨_, rfl⟩
  rw [hw4]
  obtain ⟨bl, hbl⟩ : ∃ bl, w5.heap.size = bl := ⟨_, rfl⟩
  rw [hbl]
  obtain ⟨p, hp⟩ : ∃ p, (ws.drop F).take l = p := ⟨_, rfl⟩
  have hbl4 : bl < w4.heap.size := by rw [← hw4, World.size_alloc, hbl]; omega
  have hwo : wr.heap.size ≤ bl := by rw [← hbl]; exact HX5.out.lt
  have hpl : p.length = l := by rw [← hp, List.length_take, List.length_drop]; have := HL.out; omega
  have HX4 := Hd (show Ext wr w4 by rw [← hw4]; exact HX5.out.alloc _)
  have HB4 := Hd (show w4.heap[bl]? = some (.cells #[.int .i64 (first + F), .int .i64 (first + T), .slice Ag GP.length cg, .slice none 0 0] 86 (0, 0)) by rw [← hw4, ← hbl]; exact heap_alloc_new w5 _)
  have HX54 := Hd (show Ext w5 w4 by rw [← hw4]; exact (Ext.refl w5).alloc _)
  have HM4 := Hd (HMV.out.trans (Mv.of_ext HX4.out))
  have HRS4 := Hd (show kWd.row w4 (fun j => j < bl) (some ⟨b0, off + F * 4, none⟩) l p by
   have h9 := Lay.row_take (Lay.row_drop (Lay.row_keep HRS.out HMV.out.size fun j hj hl => HMV.out.keep j hj hl) F) l (by omega)
   rw [kWd_sz, hp] at h9
   exact Lay.row_ext (Lay.row_mono h9 fun j _ hj => by omega) HX4.out)
  have HP := Hd hp
  clear hw4 hp
  go_loopw [18, 76] (fun _ s76 w' => SuN w4 bl (first + F) (first + T) (.slice Ag GP.length cg) p s76 w') (fun _ s76 _ => toM l s76)
  case atStart => exact ⟨0, _, by omega, rfl, Mv.refl _ _, HB4.out, Lay.own_nil _ _ _ _ _⟩
  obtain ⟨j, nv, hj, rfl, hmv2, hbx, hon⟩ := hrel
  have HM2 := Hd hmv2
  have HBX := Hd hbx
  have HON := Hd hon
  have k0 := cof hbx (i := 0) (u := .int .i64 (first + F)) rfl
  have k1 := cof hbx (i := 1) (u := .int .i64 (first + T)) rfl
  have k2 := cof hbx (i := 2) (u := .slice Ag GP.length cg) rfl
  have k3 := cof hbx (i := 3) (u := nv) rfl
  have kf := fof hbx 3
  clear hmv2 hbx hon
  by_cases hjl : j < l
  case neg =>
   obtain rfl : l = j := by omega
   have hnj : ¬ ((l : Int) < (l : Int)) := by omega
   have HM5 := Hd (HM4.out.mv HM2.out (Nat.le_trans HMV.out.size hwo))
   have HOI := Hd (Lay.own_keep HO.out (Nat.le_trans HX4.out.lt HM2.out.size) fun q _ hq => (HM2.out.keep q (by omega) (Nat.lt_of_lt_of_le hq HX4.out.lt)).trans (HX4.out.block q hq))
   obtain ⟨cur, hcur, hcs⟩ := own_block HOI.out
   rw [kLn_sz, List.length_append, List.length_take, List.length_replicate, HLN.out] at hcs
   have HCU := Hd hcur
   obtain ⟨v0, g0⟩ : ∃ v, wr.cell? ⟨g, i * 4, none⟩ = some v := ⟨_, cof hcur (Array.getElem?_eq_getElem (by omega))⟩
   obtain ⟨v1, g1⟩ : ∃ v, wr.cell? ⟨g, i * 4 + 1, none⟩ = some v := ⟨_, cof hcur (Array.getElem?_eq_getElem (by omega))⟩
   obtain ⟨v2, g2⟩ : ∃ v, wr.cell? ⟨g, i * 4 + 2, none⟩ = some v := ⟨_, cof hcur (Array.getElem?_eq_getElem (by omega))⟩
   obtain ⟨v3, g3⟩ : ∃ v, wr.cell? ⟨g, i * 4 + 3, none⟩ = some v := ⟨_, cof hcur (Array.getElem?_eq_getElem (by omega))⟩
   have q0 := fof hcur (i * 4)
   have q1 := fof hcur (i * 4 + 1)
   have q2 := fof hcur (i * 4 + 2)
   have q3 := fof hcur (i * 4 + 3)
   obtain ⟨An, cn, rfl, hcn, hrn⟩ := own_rowN (P := fun q => g < q) (Q := fun q => g < q) (own_int HON.out) (fun q hq _ => hq) (fun q hq _ => by omega)
   have HRN := Hd hrn
   have HXL := Hd (show LN[i]? = some (⟨first + F, first + T, GP, ntsOf (p.take l)⟩ : Ln) by
    have h9 := HAT.out i l HLI.out
    have h8 := HGE.out
    unfold wdsL at h8
    rw [← List.map_drop, ← List.map_take, HP.out, HLB.out] at h8
    rw [← HF.out, HT.out, HP.out, h8] at h9
    rw [h9, List.take_of_length_le (by omega)])
   have HRG := Hd (show kInt.row wr (fun q => g < q) Ag GP.length GP by
    obtain ⟨A9, c9, e9, _, h9⟩ := own_rowN (P := fun q => g < q ∧ q < bl) (Q := fun q => g < q ∧ q < bl) (own_int HOG.out) (fun q hq _ => hq) (fun q hq hq2 => ⟨by omega, by omega⟩)
    injection e9 with e9 e10 e11
    subst e9
    have h7 := Lay.row_ext h9 (show Ext w5 w4 from HX54.out)
    exact Lay.row_mono (Lay.row_keep h7 HM2.out.size fun q hq hl => HM2.out.keep q (by omega) hl) fun q hq _ => hq.1)
   have hgc : GP.length ≤ cg := by
    obtain ⟨A9, c9, e9, h8, _⟩ := Lay.own_row HOG.out
    injection e9 with _ _ e11
    omega
   clear hcur hcs hrn
   go_wp2_with fail
   go_roundw
   case rel =>
    refine ⟨i + 1, T, by omega, by simp, rfl, by rw [sum_take_succ ls HLI.out, ← HF.out, HT.out], (((HM5.out.trans (Mv.set _)).trans (Mv.set _)).trans (Mv.set _)).trans (Mv.set _), ?_⟩
    have h9 := Lay.own_put4 kLn_sz HOI.out (i := i) (by rw [List.length_append, List.length_take, List.length_replicate, HLN.out]; omega) (x := ⟨first + F, first + T, GP, ntsOf (p.take l)⟩) (kLn_rep.2 ⟨Ag, _, cg, An, _, cn, rfl, hgc, hcn, Lay.row_mono HRG.out fun q hq _ => ⟨by omega, by simp [Value.ownBlock]; omega⟩, Lay.row_mono HRN.out fun q hq _ => ⟨by omega, by simp [Value.ownBlock]; omega⟩⟩)
    rwa [take_setL _ _ _ _ _ (by omega) HXL.out] at h9
   case measure => simp only [toM]; omega
  have hJ : (j : Int) < (l : Int) := by omega
  obtain ⟨x, hxj⟩ : ∃ x, p[j]? = some x := ⟨_, List.getElem?_eq_getElem (by omega)⟩
  obtain ⟨b9, o9, cs9, e9, hb9, hb9l, hrep, hcell9⟩ := Lay.row_at (Lay.row_keep HRS4.out HM2.out.size fun q hq hl => HM2.out.keep q (by omega) hl) hxj
  injection e9 with e9
  injection e9 with e9 e10
  subst e9 e10
  rw [kWd_rep] at hrep
  subst hrep
  have c0 := hcell9 0 _ rfl
  have c1 := hcell9 1 _ rfl
  have c2 := hcell9 2 _ rfl
  have c3' := hcell9 3 _ rfl
  rw [kWd_sz] at c0 c1 c2 c3'
  rw [Nat.add_zero] at c0
  have hxv := (HV.out x (List.mem_of_mem_drop (List.mem_of_mem_take (by rw [HP.out]; exact List.mem_of_getElem? hxj)))).2
  have HNS := Hd (ntsOf_succ p hxj)
  have hnl := ntsOf_len (p.take j)
  rw [List.length_take] at hnl
  have hblr : bl < wr.heap.size := Nat.lt_of_lt_of_le hbl4 HM2.out.size
  obtain ⟨x1, x2, x3, x4⟩ := x
  clear hcell9 hxj
  simp only at c0 c1 c2 c3' hxv HNS
  by_cases hx4 : x4 = 0
  ·subst hx4
   go_wp2_with fail
   go_roundw
   case rel =>
    refine ⟨j + 1, nv, by omega, by simp, HM2.out.trans (Mv.of_ext ((Ext.refl _).alloc _)), (Below.heap_alloc _ _ _ hblr).trans HBX.out, ?_⟩
    rw [HNS.out, if_neg (by simp), List.append_nil]
    exact Lay.own_ext HON.out ((Ext.refl _).alloc _)
   case measure => simp only [toM]; omega
  ·rw [if_pos hx4] at HNS
   obtain ⟨X, hX⟩ : ∃ X, wr.alloc (.cells #[.string ⟨x1.toArray⟩, .string ⟨x2.toArray⟩, .int .i64 x3, .int .i64 x4] 60) = X := ⟨_, rfl⟩
   have hxX : Ext wr X := by rw [← hX]; exact (Ext.refl _).alloc _
   have hMX := HM2.out.trans (Mv.of_ext hxX)
   have hlto := Lay.own_lt HON.out
   obtain ⟨A9, c9, w9, hrun, ho9, hb9', hk9, hs9, hn9⟩ := own_app1 (k := kInt) (Pr := Tryz.prog) (t := 22) Tryz.underlying22 info3 rfl (by decide) (by omega) (Lay.own_ext HON.out hxX) hMX.size (cs := #[.int .i64 (x4 - 1)]) (T := 3) (x := x4 - 1) rfl 1 (by omega)
   have hM9 : Mv bl w4 w9 := hMX.app (fun q hq => hk9 q (Nat.lt_of_lt_of_le hq hMX.size) fun e => by have := (hlto q e).1; omega) hs9 fun B hB => hb9' B hB
   have hbX : X.heap[bl]? = some (.cells #[.int .i64 (first + F), .int .i64 (first + T), .slice Ag GP.length cg, nv] 86 (0, 0)) := (hxX.block bl hblr).trans HBX.out
   have hb99 : w9.heap[bl]? = some (.cells #[.int .i64 (first + F), .int .i64 (first + T), .slice Ag GP.length cg, nv] 86 (0, 0)) := (hk9 bl (lt_of_block hbX) fun e => by have := (hlto bl e).1; omega).trans hbX
   have hc93 := cof hb99 (i := 3) (u := nv) rfl
   have hf93 := fof hb99 3
   have hown9 : kInt.own 3 (w9.setCell ⟨bl, 3, none⟩ (.slice A9 ((ntsOf (p.take j)).length + 1) c9)) w4.heap.size (fun _ => True) (.slice A9 ((ntsOf (p.take j)).length + 1) c9) (ntsOf (p.take (j + 1))) := by
    rw [HNS.out]
    exact own_int (P := fun _ => False) (Lay.own_keep (own_int ho9) (by simp) fun q hq hl => by
     rcases hq with hq | hq
     ·exact hq.elim
     ·have := (Lay.own_lt ho9 q hq).1
      exact heap_setCell_other _ ⟨bl, 3, none⟩ q _ (by show q ≠ bl; omega))
   have hbl9 : (w9.setCell ⟨bl, 3, none⟩ (.slice A9 ((ntsOf (p.take j)).length + 1) c9)).heap[bl]? = some (.cells #[.int .i64 (first + F), .int .i64 (first + T), .slice Ag GP.length cg, .slice A9 ((ntsOf (p.take j)).length + 1) c9] 86 (0, 0)) := by
    rw [heap_setCell_same _ bl 3 _ 86 _ hb99]
    rfl
   have HREL := Hd (show SuN w4 bl (first + F) (first + T) (.slice Ag GP.length cg) p (.int .i64 ((j : Int) + 1)) (w9.setCell ⟨bl, 3, none⟩ (.slice A9 ((ntsOf (p.take j)).length + 1) c9)) from ⟨j + 1, _, by omega, by simp, hM9.trans (Mv.set _), hbl9, hown9⟩)
   have HRUN := Hd hrun
   clear hlto ho9 hb9' hk9 hn9 hM9 hbX hb99 hown9 hbl9 hrun
   rw [← hX, World.size_alloc] at HRUN
   clear hX hxX hMX hs9
   go_wp2_with (first | (at_builtin; refine wpList_append_run (s := .tmp 84) (x := .tmp 88) HRUN.out rfl rfl rfl rfl rfl ?_))
   go_roundw
   case rel => exact HREL.out
   case measure => simp only [toM]; omega
 have hI : (i : Int) < (n : Int) := by omega
 obtain ⟨x, hxi⟩ : ∃ x, ws[i]? = some x := ⟨_, List.getElem?_eq_getElem (by have := HL.out; omega)⟩
 obtain ⟨b0, off, cs, rfl, hb0, _, hrep, hcell⟩ := Lay.row_at (Lay.row_ext HR.out HX.out) hxi
 rw [kWd_rep] at hrep
 subst hrep
 have c0 := hcell 0 _ rfl
 have c1 := hcell 1 _ rfl
 have c2 := hcell 2 _ rfl
 have c3' := hcell 3 _ rfl
 rw [kWd_sz] at c0 c1 c2 c3'
 rw [Nat.add_zero] at c0
 have hwb := wid_bd x.s
 obtain ⟨v, hvx⟩ : ∃ v, wid x.s = v := ⟨_, rfl⟩
 have HWX := Hd (fun X (hX : Ext w X) => HGW.out x.s X hX)
 simp only [hvx] at HWX
 have hfz := HA.out.frozen i
 have hbw : w.heap.size < wr.heap.size := HA.out.lt
 have hce := HA.out.cell (i := i) (x := 0) (by rw [List.getElem?_append_right (by rw [List.length_take]; omega), List.getElem?_replicate, List.length_take, if_pos (by have := HL.out; unfold wdsL; rw [List.length_map]; omega)])
 have HXI := Hd hxi
 have HVX := Hd hvx
 obtain ⟨x1, x2, x3, x4⟩ := x
 clear hcell hxi hvx
 simp only at c0 c1 c2 c3' HWX HVX
 go_wp2_with (first | (go_at_call 219; refine (HWX.out _ (HX.out.alloc _)).mono ?_; rintro e w5 ⟨rfl, hw5⟩; obtain rfl := hw5.symm))
 go_roundw
 case rel =>
  refine ⟨i + 1, by have := HL.out; omega, by simp, (HX.out.setCell (p := ⟨w.heap.size, i, none⟩) (Nat.le_refl _) _).alloc _, Arr.alloc ?_ _⟩
  have h1 := HA.out.set i v
  rwa [take_set _ _ _ _ (by have := HL.out; omega) (by unfold wdsL; rw [List.getElem?_map, HXI.out]; exact congrArg some HVX.out)] at h1
 case measure => simp only [toM]; omega
end
end Go.Proofs.YtdbnddmncbjobaaGreatDoor