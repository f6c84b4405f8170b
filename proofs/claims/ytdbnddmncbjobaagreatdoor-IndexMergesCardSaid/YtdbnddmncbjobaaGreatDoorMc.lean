/- slices.Repeat at one number; para.Gaps: walked. -/
import Derived.Test.YtdbnddmncbjobaaGreatDoorMb
import Derived.Test.YtdbnddmncbjobaaGreatDoorMa
import Derived.Deep.RegionHeld3
import Derived.Deep.RegionLaw
import Derived.StillTailTactics
import Derived.ArgAppend
import Derived.Shelf.Slices.Clone
namespace Go.Proofs.YtdbnddmncbjobaaGreatDoor
open Go Go.RowKit

theorem size3 : (Tryz.prog.info? 3).map (·.size) = some 1 := by kernel_rfl
def ReRel (w : World) (b k : Nat) (s8 : Value) (w' : World) : Prop := ∃ j : Nat, 1 ≤ j ∧ j ≤ k ∧ s8 = .int .i64 j ∧ Ext w w' ∧ Arr w' b (List.replicate j 6 ++ List.replicate (k - j) 0)
theorem splice_six (k j m : Nat) (hm : m ≤ k - j) : splice ((List.replicate j (6 : Int) ++ List.replicate (k - j) 0).map (Value.int .i64)) j ((List.replicate m (6 : Int)).map (Value.int .i64)) = (List.replicate (j + m) (6 : Int) ++ List.replicate (k - (j + m)) 0).map (Value.int .i64) := by
  unfold splice
  apply List.ext_getElem?
  intro i
  simp only [List.map_append, List.map_replicate, List.getElem?_append, List.getElem?_replicate, List.length_replicate, List.getElem?_take, List.getElem?_drop, List.length_take, List.length_append]
  repeat' split
  all_goals first | rfl | (exfalso; omega)
set_option maxHeartbeats 4000000 in
set_option maxRecDepth 100000 in
theorem repeat_any (w : World) (g k : Nat) (hk : 1 ≤ k) (hk2 : k ≤ 1000) (hg : w.cell? ⟨g, 0, none⟩ = some (.int .i64 6)) :
    Calls Tryz.prog 241 #[.slice (some ⟨g, 0, none⟩) 1 1, .int .i64 k] w (fun e w' => ∃ b, e = .returned (.slice (some ⟨b, 0, none⟩) k k) ∧ w.heap.size ≤ b ∧ Arr w' b (List.replicate k 6) ∧ Ext w w') := by
  have HM := Lib.hid (fun W => show Calls Tryz.prog 249 #[.int .u64 1, .int .u64 (k : Int)] W (fun e w' => e = .returned (.tuple #[.int .u64 0, .int .u64 (k : Int)]) ∧ w' = W) from by
    have := Tryz.bits_Mul 1 k (by omega) (by omega) W
    rwa [show (1 * k / 18446744073709551616 : Nat) = 0 by omega, show (1 * k % 18446744073709551616 : Nat) = k by omega] at this)
  obtain ⟨Z, hz, hmk⟩ := mkInts k (by omega) (k : Int) rfl
  have hB0 := hz (w.alloc (.cells Z 3)) w.heap.size (heap_alloc_new w _)
  unfold Arr at hB0
  have HB0 := Lib.hid hB0
  have HGC := Lib.hid hg
  have HGB := Lib.hid (World.block_lt_of_cell? w _ hg)
  have HSRC := Lib.hid (show ∀ j v, ((List.replicate 1 (6 : Int)).map (Value.int .i64))[j]? = some v → (w.alloc (.cells Z 3)).cell? ((⟨g, 0, none⟩ : Addr).add j) = some v from fun j v hj => by
    cases j with
    | zero =>
      simp only [List.replicate_one, List.map_cons, List.map_nil, List.getElem?_cons_zero, Option.some.injEq] at hj
      subst hj
      rw [Addr.add_lit]
      exact (((Ext.refl w).alloc (.cells Z 3)).cells.1 g 0 HGB.out).trans hg
    | succ j => simp at hj)
  clear hz hB0 hg
  go_enter Tryz.func241, Tryz.ntmps241
  go_wp2_with (first | (go_at_call 249; refine (HM.out _).mono ?_; rintro e w1 ⟨rfl, hw1⟩; obtain rfl := hw1.symm) | (refine wpList_copy_splice rfl (.tmp 31) (.tmp 32) 22 22 rfl 3 Tryz.underlying22 size3 _ _ k k 1 1 rfl rfl w.heap.size 0 ((List.replicate k (0 : Int)).map (Value.int .i64)) 3 HB0.out ((List.replicate 1 (6 : Int)).map (Value.int .i64)) (by rw [List.length_map, List.length_replicate]; exact (Nat.min_eq_left hk).symm) (fun _ => ⟨rfl, ⟨g, 0, none⟩, rfl, HSRC.out⟩) (by simp; omega) (by simp [Value.oneCell']) w.heap.size w ((Below.refl _ _).alloc (Nat.le_refl _) _) (Nat.le_refl _) ?_; intro w2 hg2 hb2))
  have hS := splice_six k 0 1 (by omega)
  simp only [List.replicate_zero, List.nil_append, Nat.sub_zero, Nat.zero_add] at hS
  rw [hS] at hg2
  have HB2 := Lib.hid (show Arr w2 w.heap.size (List.replicate 1 6 ++ List.replicate (k - 1) 0) from hg2.out)
  have HX2 := Lib.hid (show Ext w w2 from hb2)
  clear hS hg2 hb2
  go_loopw [8] (fun s8 w' => ReRel w w.heap.size k s8 w') (fun s8 _ => toM k s8)
  case atStart => exact ⟨1, by omega, hk, rfl, HX2.out, HB2.out⟩
  case round =>
    obtain ⟨j, hj1, hj2, rfl, hx, hb⟩ := hrel
    have HX := Lib.hid hx
    have HB := Lib.hid hb
    clear hx hb HX2 HB2
    by_cases hlt : j < k
    case neg =>
      obtain rfl : j = k := by omega
      have hni : ¬ ((j : Int) < (j : Int)) := by omega
      go_wp2_with fail
      go_ret
      exact ⟨w.heap.size, rfl, Nat.le_refl _, by have := HB.out; rwa [Nat.sub_self, List.replicate_zero, List.append_nil] at this, HX.out⟩
    have hI : (j : Int) < (k : Int) := by omega
    go_wp2_with fail
    obtain ⟨d, hd⟩ : ∃ d, Nat.min j (k - j) = d := ⟨_, rfl⟩
    have hd2 : min j (k - j) = d := hd
    have hd4 : 1 ≤ d := by omega
    have hd5 : d ≤ k - j := by omega
    have hd6 : d ≤ j := by omega
    have HSR := Lib.hid (show ∀ W : World, ∀ i v, ((List.replicate d (6 : Int)).map (Value.int .i64))[i]? = some v → W.heap[w.heap.size]? = wr.heap[w.heap.size]? → W.cell? ((⟨w.heap.size, 0, none⟩ : Addr).add i) = some v from fun W i v hv hW => by
      rw [List.getElem?_map, List.getElem?_replicate] at hv
      split at hv
      · next hi =>
        simp only [Option.map_some, Option.some.injEq] at hv
        subst hv
        rw [Addr.add_lit, Nat.zero_add]
        exact (HB.out.keep hW).cell (i := i) (x := 6) (by rw [List.getElem?_append_left (by rw [List.length_replicate]; omega), List.getElem?_replicate, if_pos (by omega)])
      · cases hv)
    have HFI := Lib.hid (show j + (List.map (Value.int IntKind.i64) (List.replicate d (6 : Int))).length ≤ ((List.replicate j (6 : Int) ++ List.replicate (k - j) 0).map (Value.int .i64)).length by rw [List.length_map, List.length_map, List.length_append, List.length_replicate, List.length_replicate, List.length_replicate]; omega)
    have HON := Lib.hid (show ∀ v ∈ (List.map (Value.int IntKind.i64) (List.replicate d (6 : Int))), v.oneCell' = true by
      intro v hv
      obtain ⟨x, _, rfl⟩ := List.mem_map.1 hv
      rfl)
    have HMI := Lib.hid (show (List.map (Value.int IntKind.i64) (List.replicate d (6 : Int))).length = Nat.min j (k - j) by rw [List.length_map, List.length_replicate]; exact hd.symm)
    have HBD := Lib.hid (show wr.drew.heap[w.heap.size]? = some (.cells ((List.replicate j (6 : Int) ++ List.replicate (k - j) 0).map (Value.int .i64)).toArray 3 (0, 0)) by have := HB.out; unfold Arr at this; exact this)
    have hwr : IntKind.i64.wrap ((j : Int) + (d : Int)) = (j : Int) + (d : Int) := IntWalk.i64_in _ (by omega)
    clear hd hd2
    go_region_held3 (fun _ => True) (trivial) (first | (refine step_copy_splice rfl (.tmp 41) (.tmp 44) 22 22 rfl 3 Tryz.underlying22 size3 (some ⟨w.heap.size, j, none⟩) (some ⟨w.heap.size, 0, none⟩) (k - j) (k - j) j k (by simp [Act.eval]; omega) (by simp [Act.eval]) w.heap.size j ((List.replicate j (6 : Int) ++ List.replicate (k - j) 0).map (Value.int .i64)) 3 HBD.out ((List.replicate d (6 : Int)).map (Value.int .i64)) HMI.out (fun _ => ⟨rfl, ⟨w.heap.size, 0, none⟩, rfl, fun i v hv => HSR.out _ i v hv rfl⟩) HFI.out HON.out w.heap.size w (Ext.drew HX.out) (Nat.le_refl _) ?_; intro w3 hg3 hb3))
    rw [splice_six k j d hd5] at hg3
    have HB3 := Lib.hid (show Arr w3 w.heap.size (List.replicate (j + d) 6 ++ List.replicate (k - (j + d)) 0) from hg3.out)
    have HX3 := Lib.hid (show Ext w w3 from hb3)
    clear hg3 hb3
    go_wp2_with fail
    go_roundw
    case rel => exact ⟨j + d, by omega, by omega, by simp, HX3.out, HB3.out⟩
    case measure => simp only [toM]; omega
end Go.Proofs.YtdbnddmncbjobaaGreatDoor

/- para.Gaps: walked. -/
namespace Go.Proofs.YtdbnddmncbjobaaGreatDoor
open Go Go.RowKit

theorem gcells_ints (l : List Int) : gcells ccf (l.map iCs) = l.map (Value.int .i64) := by
  induction l with
  | nil => rfl
  | cons a r ih =>
    show ccf (iCs a) ++ gcells ccf (r.map iCs) = _
    rw [ih]; rfl
/-- An array of its own as a row of its own. -/
theorem Arr.own {w : World} {b : Nat} {l : List Int} (h : Arr w b l) (hl : l.length ≤ 1000000) {base : Nat} (hb : base ≤ b) (P : Nat → Prop) : kInt.own 3 w base P (.slice (some ⟨b, 0, none⟩) l.length l.length) l := by
  refine ⟨l.map iCs, ⟨by rw [gcells_len ccf_len], .inr ⟨b, l.length, _, by rw [List.length_map], hb, h, by rw [List.length_map]; exact Nat.le_refl _, by simp only [maxLen]; omega, by simp [kInt], ?_⟩⟩, List.length_map .., fun i d x hd hx => ?_⟩
  · rw [gcells_ints, List.length_map, List.take_of_length_le]
    simp [kInt]
  · obtain ⟨y, hy, rfl⟩ := iCs_at hd
    rw [hy] at hx
    injection hx with hx
    subst hx
    rfl
def gapL (s : Int) (k i : Nat) : List Int := (gapsGo s k k 0).take i ++ List.replicate (k - i) 6
theorem gapL_set (s : Int) (k i : Nat) (hi : i < k) (x : Int) (hx : x = gapAt s k i) : (gapL s k i).set i x = gapL s k (i + 1) := by
  subst hx
  have hl := gapsGo_len s k k 0
  apply List.ext_getElem?
  intro j
  unfold gapL
  have hg : ∀ j, j < k → (gapsGo s k k 0)[j]? = some (gapAt s k j) := fun j hj => by
    have := gapsGo_at s k k 0 j hj
    rw [Nat.zero_add] at this
    exact this
  have hn : ∀ j, k ≤ j → (gapsGo s k k 0)[j]? = none := fun j hj => List.getElem?_eq_none (by omega)
  simp only [List.getElem?_set, List.getElem?_append, List.getElem?_take, List.length_append, List.length_take, hl, List.length_replicate, List.getElem?_replicate]
  rcases Nat.lt_or_ge j k with h | h
  · rw [hg j h]
    repeat' split
    all_goals first | rfl | (exfalso; omega) | (congr 2; omega) | (congr 2)
  · rw [hn j h]
    repeat' split
    all_goals first | rfl | (exfalso; omega)
theorem gapL_at (s : Int) (k i : Nat) (hi : i < k) : (gapL s k i)[i]? = some 6 := by
  unfold gapL
  rw [List.getElem?_append_right (by rw [List.length_take]; omega), List.getElem?_replicate, List.length_take, gapsGo_len, if_pos (by omega)]
def GpRel (w : World) (b k : Nat) (s : Int) (s26 : Value) (w' : World) : Prop := ∃ i : Nat, i ≤ k ∧ s26 = .int .i64 i ∧ Ext w w' ∧ Arr w' b (gapL s k i)
theorem slackP_bd {m : Int} (hm0 : 0 ≤ m) (hm : m ≤ 2000) (ws : List Int) (h : Wds ws) (hl : ws.length ≤ 500) : -300000 ≤ slackP ws m ∧ slackP ws m ≤ 2006 := by
  have := slackF_bd hm0 hm ws h
  have e : slackP ws m = slackF m ws := rfl
  rw [e]; omega
set_option maxHeartbeats 4000000 in
set_option maxRecDepth 100000 in
theorem gaps_any (P : Nat → Prop) (w : World) (A : Option Addr) (n c : Nat) (ws : List Int) (m : Int) (last : Bool) (h : kInt.row w P A n ws) (hw : Wds ws) (hn : n ≤ 500) (hm0 : 0 ≤ m) (hm : m ≤ 2000) :
    Calls Tryz.prog 221 #[.slice A n c, .int .i64 m, .bool last] w (fun e w' => ∃ A' c', e = .returned (.slice A' (gapsP ws m last).length c') ∧ kInt.own 3 w' w.heap.size (fun _ => True) (.slice A' (gapsP ws m last).length c') (gapsP ws m last) ∧ Ext w w') := by
  have hl := Lay.row_len h
  rcases Nat.lt_or_ge n 2 with h1 | h1
  · have HE := Lib.hid (show gapsP ws m last = [] by
      have : ws.length - 1 = 0 := by omega
      unfold gapsP
      rw [this]
      cases last <;> rfl)
    have h2 : (n : Int) - 1 < 1 := by omega
    clear h hl hw
    go_enter Tryz.func221, Tryz.ntmps221
    go_wp2_with fail
    go_ret
    exact ⟨none, 0, by rw [HE.out]; rfl, by rw [HE.out]; exact Lay.own_nil _ _ _ _ _, Ext.refl _⟩
  obtain ⟨k, rfl⟩ : ∃ k, n = k + 1 := ⟨n - 1, by omega⟩
  have HLN := Lib.hid (show ws.length - 1 = k by omega)
  have HR := Lib.hid h
  have HREP := Lib.hid (fun W g => repeat_any W g k (by omega) (by omega))
  have hbd := slackP_bd hm0 hm ws hw (by omega)
  have HSL := Lib.hid (fun W (hX : Ext w W) => slack_any P W A (k + 1) c ws m (Lay.row_ext h hX) hw (by omega) hm0 hm)
  obtain ⟨s, hs⟩ : ∃ s, slackP ws m = s := ⟨_, rfl⟩
  rw [hs] at HSL hbd
  have HS := Lib.hid hs
  have h1k : 1 ≤ (k : Int) := by omega
  have hk5 : (k : Int) ≤ 499 := by omega
  obtain ⟨hb1, hb2⟩ := hbd
  clear h hl hw hs
  cases last with
  | true =>
    go_enter Tryz.func221, Tryz.ntmps221
    go_wp2_with (first | (go_at_call 241; refine (HREP.out _ _ (by go_simp)).mono ?_; rintro e w1 ⟨b, rfl, hb, ha, hx⟩; have HA := Lib.hid ha; have HX := Lib.hid (((Ext.refl w).alloc _).trans hx); clear ha hx))
    go_ret
    have hg : gapsP ws m true = List.replicate k 6 := by unfold gapsP; rw [HLN.out]; rfl
    rw [hg, List.length_replicate]
    have := HA.out.own (by rw [List.length_replicate]; omega) (base := w.heap.size) (by rw [World.size_alloc] at hb; omega) (fun _ => True)
    rw [List.length_replicate] at this
    exact ⟨_, _, rfl, this, HX.out⟩
  | false =>
    obtain ⟨dv, hdv⟩ : ∃ dv, s.tdiv (k : Int) = dv := ⟨_, rfl⟩
    obtain ⟨md, hmd⟩ : ∃ md, s.tmod (k : Int) = md := ⟨_, rfl⟩
    have hdb : -300000 ≤ dv ∧ dv ≤ 300000 := by
      have := Int.natAbs_tdiv_le_natAbs s k
      rw [hdv] at this
      omega
    obtain ⟨hdb1, hdb2⟩ := hdb
    have hwd : IntKind.i64.wrap dv = dv := IntWalk.i64_in _ (by omega)
    have HGL := Lib.hid (show gapsP ws m false = gapL s k k by
      unfold gapsP gapL
      rw [HLN.out, HS.out, Nat.sub_self, List.replicate_zero, List.append_nil, List.take_of_length_le (by rw [gapsGo_len]; exact Nat.le_refl _)]
      rfl)
    have HAT := Lib.hid (fun i => show gapAt s k i = 6 + dv + (if (i : Int) < md then 1 else 0) by unfold gapAt; rw [hdv, hmd])
    have hk0 : ¬ (k : Int) = 0 := by omega
    have hk00 : ¬ k = 0 := by omega
    have hkb : ((k : Int) == 0) = false := by rw [beq_eq_false_iff_ne]; exact hk0
    have hw6 : IntKind.i64.wrap (6 + dv) = 6 + dv := IntWalk.i64_in _ (by omega)
    go_enter Tryz.func221, Tryz.ntmps221
    go_wp2_with (first | (go_at_call 241; refine (HREP.out _ _ (by go_simp)).mono ?_; rintro e w1 ⟨b, rfl, hb, ha, hx⟩; have HA := Lib.hid ha; have HX := Lib.hid (((Ext.refl w).alloc _).trans hx); clear ha hx) | (go_at_call 242; refine (HSL.out _ HX.out).mono ?_; rintro e w2 ⟨rfl, hw2⟩; obtain rfl := hw2.symm))
    rw [World.size_alloc] at hb
    go_loopw [10, 26] (fun _ s26 w' => GpRel w b k s s26 w') (fun _ s26 _ => toM k s26)
    case atStart => exact ⟨0, by omega, rfl, HX.out, HA.out⟩
    case round =>
      obtain ⟨i, hi, rfl, hx, ha⟩ := hrel
      have HXr := Lib.hid hx
      have HAr := Lib.hid ha
      clear hx ha HX HA
      by_cases hlt : i < k
      case neg =>
        obtain rfl : i = k := by omega
        have hni : ¬ ((i : Int) < (i : Int)) := by omega
        go_wp2_with fail
        go_ret
        rw [HGL.out]
        have hlen : (gapL s i i).length = i := by unfold gapL; rw [List.length_append, List.length_take, gapsGo_len, List.length_replicate]; omega
        have := HAr.out.own (by omega) (base := w.heap.size) (by omega) (fun _ => True)
        rw [hlen] at this ⊢
        exact ⟨_, _, rfl, this, HXr.out⟩
      have hI : (i : Int) < (k : Int) := by omega
      have hc6 := HAr.out.cell (gapL_at s k i hlt)
      have hfz := HAr.out.frozen i
      go_wp2_with fail
      by_cases hmdi : (i : Int) < md
      · have HA1 := Lib.hid ((HAr.out.set i (6 + dv)).set i (6 + dv + 1))
        rw [List.set_set, gapL_set s k i hlt _ (by rw [HAT.out, if_pos hmdi])] at HA1
        have HX1 := Lib.hid ((HXr.out.setCell (p := ⟨b, i, none⟩) (by show w.heap.size ≤ b; omega) (.int .i64 (6 + dv))).setCell (p := ⟨b, i, none⟩) (by show w.heap.size ≤ b; omega) (.int .i64 (6 + dv + 1)))
        go_still_tail 9, (by kernel_rfl)
        go_wp2_with fail
        go_roundw
        case rel => exact ⟨i + 1, by omega, by simp, HX1.out.drew, HA1.out⟩
        case measure => simp only [toM]; omega
      · have HA1 := Lib.hid (HAr.out.set i (6 + dv))
        rw [gapL_set s k i hlt _ (by rw [HAT.out, if_neg hmdi]; omega)] at HA1
        have HX1 := Lib.hid (HXr.out.setCell (p := ⟨b, i, none⟩) (by show w.heap.size ≤ b; omega) (.int .i64 (6 + dv)))
        go_still_tail 9, (by kernel_rfl)
        go_wp2_with fail
        go_roundw
        case rel => exact ⟨i + 1, by omega, by simp, HX1.out.drew, HA1.out⟩
        case measure => simp only [toM]; omega
end Go.Proofs.YtdbnddmncbjobaaGreatDoor

/- para.set: walked. -/
namespace Go.Proofs.YtdbnddmncbjobaaGreatDoor
open Go Go.RowKit

def wdsL (ws : List Wd) : List Int := ws.map fun w => wid w.s
/-- The words are words. -/
def WsV (ws : List Wd) : Prop := ∀ w ∈ ws, 1 ≤ wid w.s ∧ 0 ≤ w.nt ∧ w.nt ≤ 100000
theorem WsV.wdr {ws : List Wd} (h : WsV ws) : Wdr (wdsL ws) := fun x hx => by
  obtain ⟨w, hw, rfl⟩ := List.mem_map.1 hx
  exact ⟨(h w hw).1, (wid_bd w.s).2⟩
/-- make of n lines. -/
theorem mkLines (n : Nat) (hn : n ≤ 1000000) (N : Int) (hN : N = (n : Int)) : ∃ Z : Array Value, (∀ W (b : Nat) (w : World) P, W.heap[b]? = some (.cells Z 86 (0, 0)) → w.heap.size ≤ b → kLn.own 86 W w.heap.size P (.slice (some ⟨b, 0, none⟩) n n) (List.replicate n ⟨0, 0, [], []⟩)) ∧
    ∀ W, (Instr.makeSlice 82 (.int .i64 N) (.int .i64 N)).run Tryz.prog W = .ok (.slice (some ⟨W.heap.size, 0, none⟩) n n) (W.alloc (.cells Z 86)) := by
  refine ⟨_, fun W b w P h hb => ?_, fun W => run_mk (P := Tryz.prog) Tryz.underlying82 info86 (by omega) n hn N hN W⟩
  refine own_zero (k := kLn) 86 w P ⟨0, 0, [], []⟩ [.int .i64 0, .int .i64 0, .slice none 0 0, .slice none 0 0] (fun W Q => kLn_rep.2 ⟨none, 0, 0, none, 0, 0, rfl, Nat.le_refl _, Nat.le_refl _, Lay.row_nil _ _ _, Lay.row_nil _ _ _⟩) n hn _ ?_ W b h hb
  exact made_flat #[.int .i64 0, .int .i64 0, .slice none 0 0, .slice none 0 0] (by decide) n
/-- The widths of the first i words are reckoned. -/
def SuW (w : World) (b : Nat) (ws : List Wd) (s24 : Value) (w' : World) : Prop := ∃ i : Nat, i ≤ ws.length ∧ s24 = .int .i64 i ∧ Ext w w' ∧ Arr w' b ((wdsL ws).take i ++ List.replicate (ws.length - i) 0)
theorem take_set (l : List Int) (n i : Nat) (x : Int) (hi : i < n) (h : l[i]? = some x) : (l.take i ++ List.replicate (n - i) 0).set i x = l.take (i + 1) ++ List.replicate (n - (i + 1)) 0 := by
  have hl := (List.getElem?_eq_some_iff.1 h).1
  rw [List.set_append_right _ _ (by rw [List.length_take]; omega), List.length_take, Nat.min_eq_left (by omega), Nat.sub_self, show n - i = (n - (i + 1)) + 1 by omega, List.replicate_succ, List.set_cons_zero, List.take_add_one, h]
  simp
theorem take_setL {γ : Type} (z : γ) (l : List γ) (n i : Nat) (x : γ) (hi : i < n) (h : l[i]? = some x) : (l.take i ++ List.replicate (n - i) z).set i x = l.take (i + 1) ++ List.replicate (n - (i + 1)) z := by
  have hl := (List.getElem?_eq_some_iff.1 h).1
  rw [List.set_append_right _ _ (by rw [List.length_take]; omega), List.length_take, Nat.min_eq_left (by omega), Nat.sub_self, show n - i = (n - (i + 1)) + 1 by omega, List.replicate_succ, List.set_cons_zero, List.take_add_one, h]
  simp
/-- The first i lines are set. -/
def SuL (w3 : World) (w : World) (g : Nat) (ls : List Nat) (LN : List Ln) (s13 s47 : Value) (w' : World) : Prop := ∃ i F : Nat, i ≤ ls.length ∧ s47 = .int .i64 i ∧ s13 = .int .i64 F ∧ F = (ls.take i).sum ∧ Mv g w3 w' ∧ kLn.own 86 w' w.heap.size (fun j => w.heap.size ≤ j) (.slice (some ⟨g, 0, none⟩) ls.length ls.length) (LN.take i ++ List.replicate (ls.length - i) ⟨0, 0, [], []⟩)
/-- The notes of the first j words of a line are met. -/
def SuN (w4 : World) (bl : Nat) (f1 f2 : Int) (gv : Value) (p : List Wd) (s76 : Value) (w' : World) : Prop := ∃ (j : Nat) (nv : Value), j ≤ p.length ∧ s76 = .int .i64 j ∧ Mv bl w4 w' ∧ w'.heap[bl]? = some (.cells #[.int .i64 f1, .int .i64 f2, gv, nv] 86 (0, 0)) ∧ kInt.own 3 w' w4.heap.size (fun _ => True) nv (ntsOf (p.take j))
theorem Mv.mv {g bl : Nat} {w3 w4 w5 : World} (h : Mv g w3 w4) (h2 : Mv bl w4 w5) (hbl : w3.heap.size ≤ bl) : Mv g w3 w5 :=
  ⟨Nat.le_trans h.size h2.size, fun k hk hl => (h2.keep k (by omega) (Nat.lt_of_lt_of_le hl h.size)).trans (h.keep k hk hl), fun w0 h0 hx => h2.ext w0 (Nat.le_trans hx.lt hbl) (h.ext w0 h0 hx)⟩
theorem Mv.app {bl : Nat} {w4 X w9 : World} (h : Mv bl w4 X) (hk : ∀ j, j < w4.heap.size → w9.heap[j]? = X.heap[j]?) (hs : X.heap.size ≤ w9.heap.size) (hb : ∀ B, B ≤ w4.heap.size → Below B X w9) : Mv bl w4 w9 :=
  ⟨Nat.le_trans h.size hs, fun k h1 h2 => (hk k h2).trans (h.keep k h1 h2), fun w0 h0 hx => Below.trans (h.ext w0 h0 hx) (hb _ hx.lt)⟩
theorem own_block {β : Type} {k : Lay β} {e : TypeId} {W : World} {base g n c : Nat} {P : Nat → Prop} {xs : List β} (h : k.own e W base P (.slice (some ⟨g, 0, none⟩) n c) xs) : ∃ cur, W.heap[g]? = some (.cells cur e (0, 0)) ∧ xs.length * k.sz ≤ cur.size := by
  obtain ⟨ds, h1, h2, _⟩ := h
  rcases h1.2 with ⟨h3, _⟩ | ⟨g', cap, cur, h3, h4, h5, h6, h7, h8, _⟩
  · cases h3
  · injection h3 with h3 _ h9
    injection h3 with h3
    injection h3 with h3
    subst h3
    exact ⟨cur, h5, Nat.le_trans (by rw [← h2]; exact Nat.mul_le_mul_right _ h6) (Nat.le_of_eq h8.symm)⟩
theorem frozen_of {W : World} {g : Nat} {cur : Array Value} {e : TypeId} (h : W.heap[g]? = some (.cells cur e (0, 0))) (i : Nat) : W.frozen? ⟨g, i, none⟩ = false := by
  unfold World.frozen?
  simp only [h]
  simp
theorem cell_of {W : World} {g : Nat} {cur : Array Value} {e : TypeId} (h : W.heap[g]? = some (.cells cur e (0, 0))) {i : Nat} {u : Value} (hi : cur[i]? = some u) : W.cell? ⟨g, i, none⟩ = some u := by
  unfold World.cell?
  simp only [h]
  simpa using hi
theorem own_int {e : TypeId} {W : World} {base : Nat} {P Q : Nat → Prop} {v : Value} {xs : List Int} (h : kInt.own e W base P v xs) : kInt.own e W base Q v xs := by
  obtain ⟨ds, h1, h2, h3⟩ := h
  exact ⟨ds, h1, h2, fun i d x hd hx => h3 i d x hd hx⟩
theorem len_le_sum (l : List Nat) (h : ∀ x ∈ l, 1 ≤ x) : l.length ≤ l.sum := by
  induction l with
  | nil => exact Nat.le_refl _
  | cons a r ih =>
    have h1 := h a (by simp)
    have h2 := ih fun x hx => h x (List.mem_cons_of_mem _ hx)
    simp only [List.length_cons, List.sum_cons]; omega
theorem ntsOf_succ (p : List Wd) {j : Nat} {x : Wd} (h : p[j]? = some x) : ntsOf (p.take (j + 1)) = ntsOf (p.take j) ++ (if x.nt ≠ 0 then [x.nt - 1] else []) := by
  unfold ntsOf
  rw [List.take_add_one, h, List.filterMap_append]
  congr 1
  by_cases h0 : x.nt = 0 <;> simp [h0]
theorem ntsOf_len (p : List Wd) : (ntsOf p).length ≤ p.length := List.length_filterMap_le ..
set_option maxHeartbeats 8000000 in
set_option maxRecDepth 100000 in
theorem set_any (P : Nat → Prop) (w : World) (A : Option Addr) (n c : Nat) (ws : List Wd) (first m : Int) (h : kWd.row w P A n ws) (hc : n ≤ c) (hv : WsV ws) (hn : n ≤ 500) (hf0 : 0 ≤ first) (hf : first ≤ 1000000) (hm0 : 500 ≤ m) (hm : m ≤ 2000) (hL : EnvW w) :
    Calls Tryz.prog 185 #[.slice A n c, .int .i64 first, .int .i64 m] w (fun e w' => ∃ A' c', e = .returned (.slice A' (setP ws first m).length c') ∧ (setP ws first m).length ≤ c' ∧ kLn.own 86 w' w.heap.size (fun j => w.heap.size ≤ j) (.slice A' (setP ws first m).length c') (setP ws first m) ∧ Ext w w') := by
  have HL := Lib.hid (Lay.row_len h)
  have HR := Lib.hid h
  have HV := Lib.hid hv
  have HENV := Lib.hid hL
  obtain ⟨Z, hz, hmk⟩ := mkInts n (by omega) (n : Int) rfl
  have hA0 := hz (w.alloc (.cells Z 3)) w.heap.size (heap_alloc_new w _)
  have HA0 := Lib.hid hA0
  have HGW := Lib.hid (fun (S : List UInt8) X (hX : Ext w X) => width_any ⟨S.toArray⟩ X (HENV.out.ext hX))
  clear h hv hL hz hA0
  go_enter Tryz.func185, Tryz.ntmps185
  go_wp2_with fail
  go_loopw [8, 9, 24] (fun _ _ s24 w' => SuW w w.heap.size ws s24 w') (fun _ _ s24 _ => toM n s24)
  case atStart => exact ⟨0, by omega, rfl, (Ext.refl w).alloc _, by have := HA0.out; rw [HL.out] at this; simpa using this⟩
  case round =>
    obtain ⟨i, hi, rfl, hx, ha⟩ := hrel
    have HX := Lib.hid hx
    have HA := Lib.hid ha
    clear hx ha HA0
    by_cases hlt : i < n
    case neg => 
      obtain rfl : n = i := by have := HL.out; omega
      have hni : ¬ ((n : Int) < (n : Int)) := by omega
      have HA2 := Lib.hid (show Arr wr w.heap.size (wdsL ws) by
        have h1 := HA.out
        rw [HL.out, Nat.sub_self, List.replicate_zero, List.append_nil, List.take_of_length_le (by unfold wdsL; rw [List.length_map]; exact Nat.le_refl _)] at h1
        exact h1)
      have HLW := Lib.hid (show (wdsL ws).length = n by unfold wdsL; rw [List.length_map]; exact HL.out.symm)
      have hrw := HA2.out.row (fun _ => True) trivial
      rw [HLW.out] at hrw
      have HEN := Lib.hid (ends_any (fun _ => True) wr _ n n (wdsL ws) m hrw HV.out.wdr hn hm0 hm)
      have hlo := lens_ok (m := m) hm0 HV.out.wdr.wds
      rw [HLW.out] at hlo
      obtain ⟨ls, hls⟩ : ∃ ls, lens (wdsL ws) m = ls := ⟨_, rfl⟩
      simp only [hls] at HEN hlo
      have HLS := Lib.hid hls
      have HLO := Lib.hid hlo
      have hL5 : ls.length ≤ 500 := by have := len_le_sum ls hlo.1; omega
      obtain ⟨ZL, hzl, hmkl⟩ := mkLines ls.length (by omega) (ls.length : Int) rfl
      have HZL := Lib.hid hzl
      clear hrw hls hlo hzl
      go_wp2_with (first | (go_at_call 220; refine HEN.out.mono ?_; rintro e w2 ⟨Ae, ce, rfl, hoe, hx2⟩; have HOE := Lib.hid hoe; have HX2 := Lib.hid hx2; clear hoe hx2))
      obtain ⟨w3, hw3⟩ : ∃ w3, w2.alloc (.cells ZL 86) = w3 := ⟨_, rfl⟩
      rw [hw3]
      obtain ⟨g, hg⟩ : ∃ g, w2.heap.size = g := ⟨_, rfl⟩
      rw [hg]
      have HX3 := Lib.hid (show Ext w2 w3 by rw [← hw3]; exact (Ext.refl w2).alloc _)
      have HXW := Lib.hid (HX.out.trans (HX2.out.trans HX3.out))
      have hwg : w.heap.size < g := by rw [← hg]; exact Nat.lt_of_lt_of_le HA2.out.lt HX2.out.lt
      have hg3 : g < w3.heap.size := by rw [← hw3, World.size_alloc, hg]; omega
      have HO3 := Lib.hid (HZL.out w3 g w (fun j => w.heap.size ≤ j) (by rw [← hw3, ← hg]; exact heap_alloc_new w2 _) (Nat.le_of_lt hwg))
      have HRE := Lib.hid (show kInt.row w3 (fun j => j ≠ g) Ae ls.length (cum 0 ls) by
        obtain ⟨A9, c9, e9, _, h9⟩ := own_rowN (Q := fun j => j ≠ g) HOE.out (fun j _ hj => by omega) (fun j _ hj => by omega)
        injection e9 with e9 e10 e11
        subst e9
        rw [cum_len] at h9
        exact Lay.row_ext h9 HX3.out)
      have HRW := Lib.hid (show kInt.row w3 (fun j => j ≠ g) (some ⟨w.heap.size, 0, none⟩) n (wdsL ws) by
        have h9 := (HA2.out.ext (HX2.out.trans HX3.out)).row (fun j => j ≠ g) (by omega)
        rwa [HLW.out] at h9)
      have HRS := Lib.hid (show kWd.row w3 (fun j => j ≠ g) A n ws from Lay.row_ext (Lay.row_mono HR.out fun j _ hj => by omega) HXW.out)
      have HLN := Lib.hid (show (setP ws first m).length = ls.length by rw [setP_lens]; exact congrArg List.length HLS.out)
      have HAT := Lib.hid (fun i l (h : ls[i]? = some l) => show (setP ws first m)[i]? = some (⟨first + ((ls.take i).sum : Nat), first + (((ls.take i).sum + l : Nat) : Int), gapsP (((ws.drop (ls.take i).sum).take l).map fun w => wid w.s) m (decide (i + 1 = ls.length)), ntsOf ((ws.drop (ls.take i).sum).take l)⟩ : Ln) by
        have h9 : lens (ws.map fun w => wid w.s) m = ls := HLS.out
        unfold setP
        rw [h9]
        exact linesGo_at m ls ws first i l h)
      obtain ⟨LN, hLN⟩ : ∃ LN, setP ws first m = LN := ⟨_, rfl⟩
      rw [hLN] at HLN HAT
      have HLE := Lib.hid hLN
      clear hw3 hLN hmkl hmk hni
      go_loopw [13, 47] (fun s13 s47 w' => SuL w3 w g ls LN s13 s47 w') (fun _ s47 _ => toM ls.length s47)
      case atStart => exact ⟨0, 0, by omega, rfl, rfl, rfl, Mv.refl _ _, by simpa using HO3.out⟩
      case round =>
        obtain ⟨i, F, hi, rfl, rfl, hF, hmv, ho⟩ := hrel
        have HMV := Lib.hid hmv
        have HO := Lib.hid ho
        have HF := Lib.hid hF
        clear hmv ho hF HO3
        by_cases hlt2 : i < ls.length
        case neg =>
          obtain rfl : ls.length = i := by omega
          have hni : ¬ ((ls.length : Int) < (ls.length : Int)) := by omega
          have HO5 := Lib.hid HO.out
          rw [Nat.sub_self, List.replicate_zero, List.append_nil, List.take_of_length_le (by rw [HLN.out]; exact Nat.le_refl _)] at HO5
          go_wp2_with fail
          go_ret
          rw [HLE.out]
          exact ⟨_, _, by rw [HLN.out]; rfl, Nat.le_of_eq HLN.out, by rw [HLN.out]; exact HO5.out, HMV.out.ext w (Nat.le_of_lt hwg) HXW.out⟩
        have hI2 : (i : Int) < (ls.length : Int) := by omega
        obtain ⟨l, hl⟩ : ∃ l, ls[i]? = some l := ⟨_, List.getElem?_eq_getElem hlt2⟩
        have hl1 := HLO.out.1 l (List.mem_of_getElem? hl)
        have hFl := sum_take_le ls hl
        rw [HLO.out.2, ← HF.out] at hFl
        have hce := cum_at ls 0 i l hl
        rw [← HF.out, Int.zero_add] at hce
        obtain ⟨be, oe, rfl, hbe, _, hcell⟩ := int_at (Lay.row_keep HRE.out HMV.out.size fun j hj hl => HMV.out.keep j hj hl) hce
        obtain ⟨T, hT⟩ : ∃ T, F + l = T := ⟨_, rfl⟩
        rw [hT] at hFl hcell
        have hT1 : F < T := by omega
        have hT2 : (F : Int) < (T : Int) := by omega
        have hT3 : (T : Int) ≤ (n : Int) := by omega
        have hTc : (T : Int) ≤ (c : Int) := by omega
        have hn5 : (n : Int) ≤ 500 := by omega
        have HLI := Lib.hid hl
        have HT := Lib.hid hT
        clear hl hce hT
        have hTF : T - F = l := by have := HT.out; omega
        obtain ⟨b0, off, cs0, rfl, hb00, hb0g, _, _⟩ := Lay.row_at (Lay.row_keep HRS.out HMV.out.size fun j hj hl => HMV.out.keep j hj hl) (show ws[F]? = some (ws[F]'(by have := HL.out; omega)) from List.getElem?_eq_getElem _)
        obtain ⟨lb, hlb⟩ : ∃ lb, ((i : Int) == (ls.length : Int) - 1) = lb := ⟨_, rfl⟩
        have HLB := Lib.hid (show lb = decide (i + 1 = ls.length) by
          rw [← hlb]
          by_cases h9 : i + 1 = ls.length
          · rw [decide_eq_true h9, beq_iff_eq]; omega
          · rw [decide_eq_false h9, beq_eq_false_iff_ne]; omega)
        have HGP := Lib.hid (fun X (hX : Mv g w3 X) => gaps_any (fun j => j ≠ g) X (some ⟨w.heap.size, F, none⟩) l l (((wdsL ws).drop F).take l) m lb (by
          have h9 := Lay.row_take (Lay.row_drop (Lay.row_keep HRW.out hX.size fun j hj hl => hX.keep j hj hl) F) l (by omega)
          rwa [show 0 + F * kInt.sz = F by rw [show kInt.sz = 1 from rfl]; omega] at h9) (fun x hx => HV.out.wdr.wds x (List.mem_of_mem_drop (List.mem_of_mem_take hx))) (by omega) (by omega) hm)
        obtain ⟨GP, hGP⟩ : ∃ GP, gapsP (((wdsL ws).drop F).take l) m lb = GP := ⟨_, rfl⟩
        rw [hGP] at HGP
        have HGE := Lib.hid hGP
        have hgw : g < wr.heap.size := Nat.lt_of_lt_of_le hg3 HMV.out.size
        clear hGP
        go_wp2_with (first | (go_at_call 221; refine (HGP.out _ HMV.out).mono ?_; rintro e w5 ⟨Ag, cg, rfl, hog, hx5⟩; have HOG := Lib.hid hog; have HX5 := Lib.hid hx5; clear hog hx5))
        obtain ⟨w4, hw4⟩ : ∃ w4, w5.alloc (.cells #[.int .i64 (first + F), .int .i64 (first + T), .slice Ag GP.length cg, .slice none 0 0] 86) = w4 := ⟨_, rfl⟩
        rw [hw4]
        obtain ⟨bl, hbl⟩ : ∃ bl, w5.heap.size = bl := ⟨_, rfl⟩
        rw [hbl]
        obtain ⟨p, hp⟩ : ∃ p, (ws.drop F).take l = p := ⟨_, rfl⟩
        have hbl4 : bl < w4.heap.size := by rw [← hw4, World.size_alloc, hbl]; omega
        have hwo : wr.heap.size ≤ bl := by rw [← hbl]; exact HX5.out.lt
        have hpl : p.length = l := by rw [← hp, List.length_take, List.length_drop]; have := HL.out; omega
        have HX4 := Lib.hid (show Ext wr w4 by rw [← hw4]; exact HX5.out.alloc _)
        have HB4 := Lib.hid (show w4.heap[bl]? = some (.cells #[.int .i64 (first + F), .int .i64 (first + T), .slice Ag GP.length cg, .slice none 0 0] 86 (0, 0)) by rw [← hw4, ← hbl]; exact heap_alloc_new w5 _)
        have HX54 := Lib.hid (show Ext w5 w4 by rw [← hw4]; exact (Ext.refl w5).alloc _)
        have HM4 := Lib.hid (HMV.out.trans (Mv.of_ext HX4.out))
        have HRS4 := Lib.hid (show kWd.row w4 (fun j => j < bl) (some ⟨b0, off + F * 4, none⟩) l p by
          have h9 := Lay.row_take (Lay.row_drop (Lay.row_keep HRS.out HMV.out.size fun j hj hl => HMV.out.keep j hj hl) F) l (by omega)
          rw [kWd_sz, hp] at h9
          exact Lay.row_ext (Lay.row_mono h9 fun j _ hj => by omega) HX4.out)
        have HP := Lib.hid hp
        clear hw4 hp
        go_loopw [18, 76] (fun _ s76 w' => SuN w4 bl (first + F) (first + T) (.slice Ag GP.length cg) p s76 w') (fun _ s76 _ => toM l s76)
        case atStart => exact ⟨0, _, by omega, rfl, Mv.refl _ _, HB4.out, Lay.own_nil _ _ _ _ _⟩
        case round =>
          obtain ⟨j, nv, hj, rfl, hmv2, hbx, hon⟩ := hrel
          have HM2 := Lib.hid hmv2
          have HBX := Lib.hid hbx
          have HON := Lib.hid hon
          have k0 := cell_of hbx (i := 0) (u := .int .i64 (first + F)) rfl
          have k1 := cell_of hbx (i := 1) (u := .int .i64 (first + T)) rfl
          have k2 := cell_of hbx (i := 2) (u := .slice Ag GP.length cg) rfl
          have k3 := cell_of hbx (i := 3) (u := nv) rfl
          have kf := frozen_of hbx 3
          clear hmv2 hbx hon
          by_cases hjl : j < l
          case neg =>
            obtain rfl : l = j := by omega
            have hnj : ¬ ((l : Int) < (l : Int)) := by omega
            have HM5 := Lib.hid (HM4.out.mv HM2.out (Nat.le_trans HMV.out.size hwo))
            have HOI := Lib.hid (Lay.own_keep HO.out (Nat.le_trans HX4.out.lt HM2.out.size) fun q _ hq => (HM2.out.keep q (by omega) (Nat.lt_of_lt_of_le hq HX4.out.lt)).trans (HX4.out.block q hq))
            obtain ⟨cur, hcur, hcs⟩ := own_block HOI.out
            rw [kLn_sz, List.length_append, List.length_take, List.length_replicate, HLN.out] at hcs
            have HCU := Lib.hid hcur
            obtain ⟨v0, g0⟩ : ∃ v, wr.cell? ⟨g, i * 4, none⟩ = some v := ⟨_, cell_of hcur (Array.getElem?_eq_getElem (by omega))⟩
            obtain ⟨v1, g1⟩ : ∃ v, wr.cell? ⟨g, i * 4 + 1, none⟩ = some v := ⟨_, cell_of hcur (Array.getElem?_eq_getElem (by omega))⟩
            obtain ⟨v2, g2⟩ : ∃ v, wr.cell? ⟨g, i * 4 + 2, none⟩ = some v := ⟨_, cell_of hcur (Array.getElem?_eq_getElem (by omega))⟩
            obtain ⟨v3, g3⟩ : ∃ v, wr.cell? ⟨g, i * 4 + 3, none⟩ = some v := ⟨_, cell_of hcur (Array.getElem?_eq_getElem (by omega))⟩
            have q0 := frozen_of hcur (i * 4)
            have q1 := frozen_of hcur (i * 4 + 1)
            have q2 := frozen_of hcur (i * 4 + 2)
            have q3 := frozen_of hcur (i * 4 + 3)
            obtain ⟨An, cn, rfl, hcn, hrn⟩ := own_rowN (P := fun q => g < q) (Q := fun q => g < q) (own_int HON.out) (fun q hq _ => hq) (fun q hq _ => by omega)
            have HRN := Lib.hid hrn
            have HXL := Lib.hid (show LN[i]? = some (⟨first + F, first + T, GP, ntsOf (p.take l)⟩ : Ln) by
              have h9 := HAT.out i l HLI.out
              have h8 := HGE.out
              unfold wdsL at h8
              rw [← List.map_drop, ← List.map_take, HP.out, HLB.out] at h8
              rw [← HF.out, HT.out, HP.out, h8] at h9
              rw [h9, List.take_of_length_le (by omega)])
            have HRG := Lib.hid (show kInt.row wr (fun q => g < q) Ag GP.length GP by
              obtain ⟨A9, c9, e9, _, h9⟩ := own_rowN (P := fun q => g < q ∧ q < bl) (Q := fun q => g < q ∧ q < bl) (own_int HOG.out) (fun q hq _ => hq) (fun q hq hq2 => ⟨by omega, by omega⟩)
              injection e9 with e9 e10 e11
              subst e9
              have h7 := Lay.row_ext h9 (show Ext w5 w4 from HX54.out)
              exact Lay.row_mono (Lay.row_keep h7 HM2.out.size fun q hq hl => HM2.out.keep q (by omega) hl) fun q hq _ => hq.1)
            have hgc : GP.length ≤ cg := by
              obtain ⟨A9, c9, e9, h8, _⟩ := Lay.own_row HOG.out
              injection e9 with _ _ e11
              omega
            clear hcur hcs hrn
            go_wp2_with fail
            go_roundw
            case rel =>
              refine ⟨i + 1, T, by omega, by simp, rfl, by rw [sum_take_succ ls HLI.out, ← HF.out, HT.out], (((HM5.out.trans (Mv.set _)).trans (Mv.set _)).trans (Mv.set _)).trans (Mv.set _), ?_⟩
              have h9 := Lay.own_put4 kLn_sz HOI.out (i := i) (by rw [List.length_append, List.length_take, List.length_replicate, HLN.out]; omega) (x := ⟨first + F, first + T, GP, ntsOf (p.take l)⟩) (kLn_rep.2 ⟨Ag, _, cg, An, _, cn, rfl, hgc, hcn, Lay.row_mono HRG.out fun q hq _ => ⟨by omega, by simp [Value.ownBlock]; omega⟩, Lay.row_mono HRN.out fun q hq _ => ⟨by omega, by simp [Value.ownBlock]; omega⟩⟩)
              rwa [take_setL _ _ _ _ _ (by omega) HXL.out] at h9
            case measure => simp only [toM]; omega
          have hJ : (j : Int) < (l : Int) := by omega
          obtain ⟨x, hxj⟩ : ∃ x, p[j]? = some x := ⟨_, List.getElem?_eq_getElem (by omega)⟩
          obtain ⟨b9, o9, cs9, e9, hb9, hb9l, hrep, hcell9⟩ := Lay.row_at (Lay.row_keep HRS4.out HM2.out.size fun q hq hl => HM2.out.keep q (by omega) hl) hxj
          injection e9 with e9
          injection e9 with e9 e10
          subst e9 e10
          rw [kWd_rep] at hrep
          subst hrep
          have c0 := hcell9 0 _ rfl
          have c1 := hcell9 1 _ rfl
          have c2 := hcell9 2 _ rfl
          have c3' := hcell9 3 _ rfl
          rw [kWd_sz] at c0 c1 c2 c3'
          rw [Nat.add_zero] at c0
          have hxv := (HV.out x (List.mem_of_mem_drop (List.mem_of_mem_take (by rw [HP.out]; exact List.mem_of_getElem? hxj)))).2
          have HNS := Lib.hid (ntsOf_succ p hxj)
          have hnl := ntsOf_len (p.take j)
          rw [List.length_take] at hnl
          have hblr : bl < wr.heap.size := Nat.lt_of_lt_of_le hbl4 HM2.out.size
          obtain ⟨x1, x2, x3, x4⟩ := x
          clear hcell9 hxj
          simp only at c0 c1 c2 c3' hxv HNS
          by_cases hx4 : x4 = 0
          · subst hx4
            go_wp2_with fail
            go_roundw
            case rel =>
              refine ⟨j + 1, nv, by omega, by simp, HM2.out.trans (Mv.of_ext ((Ext.refl _).alloc _)), (Below.heap_alloc _ _ _ hblr).trans HBX.out, ?_⟩
              rw [HNS.out, if_neg (by simp), List.append_nil]
              exact Lay.own_ext HON.out ((Ext.refl _).alloc _)
            case measure => simp only [toM]; omega
          · rw [if_pos hx4] at HNS
            obtain ⟨X, hX⟩ : ∃ X, wr.alloc (.cells #[.string ⟨x1.toArray⟩, .string ⟨x2.toArray⟩, .int .i64 x3, .int .i64 x4] 60) = X := ⟨_, rfl⟩
            have hxX : Ext wr X := by rw [← hX]; exact (Ext.refl _).alloc _
            have hMX := HM2.out.trans (Mv.of_ext hxX)
            have hlto := Lay.own_lt HON.out
            obtain ⟨A9, c9, w9, hrun, ho9, hb9', hk9, hs9, hn9⟩ := own_app1 (k := kInt) (Pr := Tryz.prog) (t := 22) Tryz.underlying22 info3 rfl (by decide) (by omega) (Lay.own_ext HON.out hxX) hMX.size (cs := #[.int .i64 (x4 - 1)]) (T := 3) (x := x4 - 1) rfl 1 (by omega)
            have hM9 : Mv bl w4 w9 := hMX.app (fun q hq => hk9 q (Nat.lt_of_lt_of_le hq hMX.size) fun e => by have := (hlto q e).1; omega) hs9 fun B hB => hb9' B hB
            have hbX : X.heap[bl]? = some (.cells #[.int .i64 (first + F), .int .i64 (first + T), .slice Ag GP.length cg, nv] 86 (0, 0)) := (hxX.block bl hblr).trans HBX.out
            have hb99 : w9.heap[bl]? = some (.cells #[.int .i64 (first + F), .int .i64 (first + T), .slice Ag GP.length cg, nv] 86 (0, 0)) := (hk9 bl (lt_of_block hbX) fun e => by have := (hlto bl e).1; omega).trans hbX
            have hc93 := cell_of hb99 (i := 3) (u := nv) rfl
            have hf93 := frozen_of hb99 3
            have hown9 : kInt.own 3 (w9.setCell ⟨bl, 3, none⟩ (.slice A9 ((ntsOf (p.take j)).length + 1) c9)) w4.heap.size (fun _ => True) (.slice A9 ((ntsOf (p.take j)).length + 1) c9) (ntsOf (p.take (j + 1))) := by
              rw [HNS.out]
              exact own_int (P := fun _ => False) (Lay.own_keep (own_int ho9) (by simp) fun q hq hl => by
                rcases hq with hq | hq
                · exact hq.elim
                · have := (Lay.own_lt ho9 q hq).1
                  exact heap_setCell_other _ ⟨bl, 3, none⟩ q _ (by show q ≠ bl; omega))
            have hbl9 : (w9.setCell ⟨bl, 3, none⟩ (.slice A9 ((ntsOf (p.take j)).length + 1) c9)).heap[bl]? = some (.cells #[.int .i64 (first + F), .int .i64 (first + T), .slice Ag GP.length cg, .slice A9 ((ntsOf (p.take j)).length + 1) c9] 86 (0, 0)) := by
              rw [heap_setCell_same _ bl 3 _ 86 _ hb99]
              rfl
            have HREL := Lib.hid (show SuN w4 bl (first + F) (first + T) (.slice Ag GP.length cg) p (.int .i64 ((j : Int) + 1)) (w9.setCell ⟨bl, 3, none⟩ (.slice A9 ((ntsOf (p.take j)).length + 1) c9)) from ⟨j + 1, _, by omega, by simp, hM9.trans (Mv.set _), hbl9, hown9⟩)
            have HRUN := Lib.hid hrun
            clear hlto ho9 hb9' hk9 hn9 hM9 hbX hb99 hown9 hbl9 hrun
            rw [← hX, World.size_alloc] at HRUN
            clear hX hxX hMX hs9
            go_wp2_with (first | (at_builtin; refine wpList_append_run (s := .tmp 84) (x := .tmp 88) HRUN.out rfl rfl rfl rfl rfl ?_))
            go_roundw
            case rel => exact HREL.out
            case measure => simp only [toM]; omega
    have hI : (i : Int) < (n : Int) := by omega
    obtain ⟨x, hxi⟩ : ∃ x, ws[i]? = some x := ⟨_, List.getElem?_eq_getElem (by have := HL.out; omega)⟩
    obtain ⟨b0, off, cs, rfl, hb0, _, hrep, hcell⟩ := Lay.row_at (Lay.row_ext HR.out HX.out) hxi
    rw [kWd_rep] at hrep
    subst hrep
    have c0 := hcell 0 _ rfl
    have c1 := hcell 1 _ rfl
    have c2 := hcell 2 _ rfl
    have c3' := hcell 3 _ rfl
    rw [kWd_sz] at c0 c1 c2 c3'
    rw [Nat.add_zero] at c0
    have hwb := wid_bd x.s
    obtain ⟨v, hvx⟩ : ∃ v, wid x.s = v := ⟨_, rfl⟩
    have HWX := Lib.hid (fun X (hX : Ext w X) => HGW.out x.s X hX)
    simp only [hvx] at HWX
    have hfz := HA.out.frozen i
    have hbw : w.heap.size < wr.heap.size := HA.out.lt
    have hce := HA.out.cell (i := i) (x := 0) (by rw [List.getElem?_append_right (by rw [List.length_take]; omega), List.getElem?_replicate, List.length_take, if_pos (by have := HL.out; unfold wdsL; rw [List.length_map]; omega)])
    have HXI := Lib.hid hxi
    have HVX := Lib.hid hvx
    obtain ⟨x1, x2, x3, x4⟩ := x
    clear hcell hxi hvx
    simp only at c0 c1 c2 c3' HWX HVX
    go_wp2_with (first | (go_at_call 219; refine (HWX.out _ (HX.out.alloc _)).mono ?_; rintro e w5 ⟨rfl, hw5⟩; obtain rfl := hw5.symm))
    go_roundw
    case rel =>
      refine ⟨i + 1, by have := HL.out; omega, by simp, (HX.out.setCell (p := ⟨w.heap.size, i, none⟩) (Nat.le_refl _) _).alloc _, Arr.alloc ?_ _⟩
      have h1 := HA.out.set i v
      rwa [take_set _ _ _ _ (by have := HL.out; omega) (by unfold wdsL; rw [List.getElem?_map, HXI.out]; exact congrArg some HVX.out)] at h1
    case measure => simp only [toM]; omega
end Go.Proofs.YtdbnddmncbjobaaGreatDoor

/- What a text is that has been checked. -/
namespace Go.Proofs.YtdbnddmncbjobaaGreatDoor

theorem chkWs_val (b : Bool) (nn : Int) : ∀ (p : List Wd) (k k' : Int), chkWs b nn p k = .inr k' → ∀ w ∈ p, validW w.s = true := by
  intro p
  induction p with
  | nil => intro k k' _ w hw; simp at hw
  | cons a r ih =>
    intro k k' h w hw
    simp only [chkWs] at h
    split at h
    · cases h
    · next h1 =>
      simp only [Bool.or_eq_true, Bool.not_eq_true', not_or, Bool.not_eq_false] at h1
      split at h
      · cases h
      · rcases List.mem_cons.1 hw with rfl | hw
        · exact h1.1
        · split at h
          · split at h
            · cases h
            · exact ih _ _ h w hw
          · exact ih _ _ h w hw
theorem chkPs_val (nn : Int) : ∀ (ps : List (List Wd)) (b : Nat) (k k' : Int), chkPs nn b ps k = .inr k' → ∀ p ∈ ps, ∀ w ∈ p, validW w.s = true := by
  intro ps
  induction ps with
  | nil => intro b k k' _ p hp; simp at hp
  | cons a r ih =>
    intro b k k' h p hp
    simp only [chkPs] at h
    split at h
    · cases h
    · next k1 hk =>
      rcases List.mem_cons.1 hp with rfl | hp
      · exact chkWs_val _ _ _ _ _ hk
      · exact ih _ _ _ h p hp
/-- A text that has been checked. -/
structure ChkT (t : Tx) : Prop where
  np : t.paras.length ≤ 100
  nn : t.notes.length ≤ 100
  len : ∀ p ∈ t.paras ++ t.notes, 1 ≤ p.length ∧ p.length ≤ 500
  ok : ∀ p ∈ t.paras ++ t.notes, ∀ w ∈ p, validW w.s = true
theorem chkT_val {t : Tx} (h : chkT t = 0) : ChkT t := by
  unfold chkT at h
  split at h
  · cases h
  · next h1 =>
    split at h
    · cases h
    · next h2 =>
      split at h
      · next e he =>
        exfalso
        subst h
        have : ∀ (ps : List (List Wd)) (b : Nat) (k : Int), chkPs t.notes.length b ps k ≠ .inl 0 := by
          intro ps
          induction ps with
          | nil => intro b k h; simp [chkPs] at h
          | cons a r ih =>
            intro b k h
            simp only [chkPs] at h
            split at h
            · next e' he' =>
              injection h with h
              subst h
              have : ∀ (p : List Wd) (bb : Bool) (k : Int), chkWs bb t.notes.length p k ≠ .inl 0 := by
                intro p
                induction p with
                | nil => intro bb k h; simp [chkWs] at h
                | cons w r ih2 =>
                  intro bb k h
                  simp only [chkWs] at h
                  split at h
                  · injection h with h; cases h
                  · split at h
                    · injection h with h; cases h
                    · split at h
                      · split at h
                        · injection h with h; cases h
                        · exact ih2 _ _ h
                      · exact ih2 _ _ h
              exact this _ _ _ he'
            · exact ih _ _ h
        exact this _ _ _ he
      · next k hk =>
        simp only [not_or] at h1
        have h3 : ∀ p ∈ t.paras ++ t.notes, ¬ (500 < p.length) := fun p hp hc => h1.2.2 (List.any_eq_true.2 ⟨p, hp, decide_eq_true hc⟩)
        have h4 : ∀ p ∈ t.paras ++ t.notes, ¬ (p.length = 0) := fun p hp hc => h2 (List.any_eq_true.2 ⟨p, hp, decide_eq_true hc⟩)
        exact ⟨by omega, by omega, fun p hp => by have := h3 p hp; have := h4 p hp; omega, fun p hp => chkPs_val _ _ _ _ _ hk p hp⟩
end Go.Proofs.YtdbnddmncbjobaaGreatDoor

/- glyph.Check at texts that are right: walked. -/
namespace Go.Proofs.YtdbnddmncbjobaaGreatDoor
open Go Go.RowKit

theorem dwl {γ : Type} (xs : List γ) {i : Nat} {p : γ} (h : xs[i]? = some p) : xs.drop i = p :: xs.drop (i + 1) := by
  have hl := (List.getElem?_eq_some_iff.1 h).1
  rw [List.drop_eq_getElem_cons hl]
  congr 1
  rw [List.getElem?_eq_getElem hl] at h
  exact Option.some.inj h
/-- The outer loop: i parts are right, k notes were met. -/
def ChO (W : World) (t : Tx) (s4 s33 : Value) (w' : World) : Prop := ∃ (i k : Nat), i ≤ (t.paras ++ t.notes).length ∧ k ≤ 500 * i ∧ s33 = .int .i64 i ∧ s4 = .int .i64 k ∧ Ext W w' ∧
  chkPs t.notes.length (t.paras.length - i) ((t.paras ++ t.notes).drop i) k = .inr t.notes.length
/-- The inner loop: j words are right, k notes were met. -/
def ChI (W : World) (b : Bool) (nn : Int) (p : List Wd) (k0 : Nat) (k1 : Int) (s4 s40 : Value) (w' : World) : Prop := ∃ (j k : Nat), j ≤ p.length ∧ k ≤ k0 + j ∧ s40 = .int .i64 j ∧ s4 = .int .i64 k ∧ Ext W w' ∧
  chkWs b nn (p.drop j) k = .inr k1
theorem chkPs_ne0 (nn : Int) : ∀ (ps : List (List Wd)) (b : Nat) (k : Int), chkPs nn b ps k ≠ .inl 0 := by
  intro ps
  induction ps with
  | nil => intro b k h; simp [chkPs] at h
  | cons a r ih =>
    intro b k h
    simp only [chkPs] at h
    split at h
    · next e' he' =>
      injection h with h
      subst h
      have : ∀ (p : List Wd) (bb : Bool) (k : Int), chkWs bb nn p k ≠ .inl 0 := by
        intro p
        induction p with
        | nil => intro bb k h; simp [chkWs] at h
        | cons w r ih2 =>
          intro bb k h
          simp only [chkWs] at h
          split at h
          · injection h with h; cases h
          · split at h
            · injection h with h; cases h
            · split at h
              · split at h
                · injection h with h; cases h
                · exact ih2 _ _ h
              · exact ih2 _ _ h
      exact this _ _ _ he'
    · exact ih _ _ h
theorem chkPs_inv {t : Tx} (h : chkT t = 0) : chkPs t.notes.length t.paras.length (t.paras ++ t.notes) 0 = .inr t.notes.length := by
  have hc := chkT_val h
  unfold chkT at h
  rw [if_neg, if_neg] at h
  · split at h
    · next e he =>
      exfalso
      subst h
      exact chkPs_ne0 _ _ _ _ he
    · next k hk =>
      rw [hk]
      split at h
      · cases h
      · next hn => rw [Decidable.of_not_not hn]
  · intro hx
    obtain ⟨p, hp, hd⟩ := List.any_eq_true.1 hx
    have := hc.len p hp
    have := of_decide_eq_true hd
    omega
  · rintro (hx | hx | hx)
    · have := hc.np; omega
    · have := hc.nn; omega
    · obtain ⟨p, hp, hd⟩ := List.any_eq_true.1 hx
      have := hc.len p hp
      have := of_decide_eq_true hd
      omega
set_option maxHeartbeats 4000000 in
set_option maxRecDepth 100000 in
theorem check_any (P : Nat → Prop) (w : World) (t : Tx) (A A' : Option Addr) (n n' c c' : Nat) (h1 : kWs.row w P A n t.paras) (h2 : kWs.row w P A' n' t.notes) (hc : chkT t = 0) (hL : EnvW w) :
    Calls Tryz.prog 184 #[.agg #[.slice A n c, .slice A' n' c']] w (fun e w' => e = .returned (.int .i64 0) ∧ Ext w w') := by
  have hv := chkT_val hc
  have HE1 := Lib.hid (Lay.row_len h1)
  have HE2 := Lib.hid (Lay.row_len h2)
  have a1' : ¬ (100 : Int) < (n : Int) := by have := hv.np; have := HE1.out; omega
  have a2' : ¬ (100 : Int) < (n' : Int) := by have := hv.nn; have := HE2.out; omega
  have HC := Lib.hid (fun X (hx : Ext w X) g hg g0 g1 => cat72 kWs rfl P X g A A' n n' c c' _ _ (Lay.row_ext h1 hx) (Lay.row_ext h2 hx) (by omega) (by omega) hg g0 g1)
  have HLW := Lib.hid hL
  have hlen : (t.paras ++ t.notes).length ≤ 200 := by have := hv.np; have := hv.nn; rw [List.length_append]; omega
  have HQ1 := Lib.hid (show (t.paras ++ t.notes).any (fun p => decide (500 < p.length)) = false by
    rw [List.any_eq_false]; intro p hp hd; have := hv.len p hp; have := of_decide_eq_true hd; omega)
  have HQ2 := Lib.hid (show (t.paras ++ t.notes).any (fun p => decide (p.length = 0)) = false by
    rw [List.any_eq_false]; intro p hp hd; have := hv.len p hp; have := of_decide_eq_true hd; omega)
  have HV := Lib.hid hv
  have HP := Lib.hid (chkPs_inv hc)
  clear h1 h2 hL hc hv
  go_enter Tryz.func184, Tryz.ntmps184
  go_wp2_with (first | (go_at_call 72; refine (HC.out _ (((Ext.refl w).alloc _).alloc _) _ (by simp) (by go_simp) (by go_simp)).mono ?_; rintro e w1 ⟨A3, c3, rfl, ho, hx⟩; have hc0 := (hx.cells.1 w.heap.size 0 (by simp; omega)).trans (by go_simp : _ = some (.slice A n c)); have hc1 := (hx.cells.1 w.heap.size 1 (by simp; omega)).trans (by go_simp : _ = some (.slice A' n' c')); have HO := Lib.hid ho; have HX := Lib.hid ((((Ext.refl w).alloc _).alloc _).trans hx); clear ho hx))
  obtain ⟨Ar, cr, er, _, hrow⟩ := Lay.own_row HO.out
  injection er with er1 er2 er3
  subst er1 er3
  rw [List.length_append] at hlen hrow
  have HRW := Lib.hid hrow
  refine (parts_many _ w1 A3 _ c3 _ hrow (by omega)).mono ?_
  rintro e w2 ⟨rfl, hx2⟩
  clear hrow er2
  have hc0' := (hx2.cells.1 w.heap.size 0 (World.block_lt_of_cell? w1 _ hc0)).trans hc0
  have hc1' := (hx2.cells.1 w.heap.size 1 (World.block_lt_of_cell? w1 _ hc0)).trans hc1
  have HX2 := Lib.hid (HX.out.trans hx2)
  have HRW2 := Lib.hid (Lay.row_ext HRW.out hx2)
  clear hc0 hc1 hx2
  rw [HQ1.out]
  go_wp2_with fail
  refine (parts_none _ w2 A3 _ c3 _ HRW2.out (by omega)).mono ?_
  rintro e w3 ⟨rfl, hx3⟩
  have hc0 := (hx3.cells.1 w.heap.size 0 (World.block_lt_of_cell? w2 _ hc0')).trans hc0'
  have hc1 := (hx3.cells.1 w.heap.size 1 (World.block_lt_of_cell? w2 _ hc0')).trans hc1'
  have HX3 := Lib.hid (HX2.out.trans hx3)
  have HRW3 := Lib.hid (Lay.row_ext HRW2.out hx3)
  clear hc0' hc1' hx3
  rw [HQ2.out]
  go_wp2_with fail
  go_loopw [4, 33] (fun s4 s33 w' => ChO w3 t s4 s33 w') (fun _ s33 _ => toM (t.paras.length + t.notes.length) s33)
  case atStart => exact ⟨0, 0, by omega, by omega, rfl, rfl, Ext.refl _, HP.out⟩
  case round =>
    obtain ⟨i, k, hi, hk, rfl, rfl, hx, heq⟩ := hrel
    have hc0r := (hx.cells.1 w.heap.size 0 (World.block_lt_of_cell? w3 _ hc0)).trans hc0
    have hc1r := (hx.cells.1 w.heap.size 1 (World.block_lt_of_cell? w3 _ hc0)).trans hc1
    have HXR := Lib.hid (HX3.out.trans hx)
    have HRWr := Lib.hid (Lay.row_ext HRW3.out hx)
    have HX3r := Lib.hid hx
    have HEQ := Lib.hid heq
    clear hx heq hc0 hc1
    rw [List.length_append] at hi
    by_cases hlt : i < t.paras.length + t.notes.length
    case neg =>
      have hni : ¬ ((i : Int) < (t.paras.length : Int) + (t.notes.length : Int)) := by omega
      obtain rfl : k = n' := by
        have h := HEQ.out
        rw [List.drop_of_length_le (by rw [List.length_append]; omega), chkPs] at h
        injection h with h
        have := HE2.out
        omega
      go_wp2_with fail
      go_ret
      exact ⟨rfl, HXR.out⟩
    have hI : (i : Int) < (t.paras.length : Int) + (t.notes.length : Int) := by omega
    obtain ⟨p, hp⟩ : ∃ p, (t.paras ++ t.notes)[i]? = some p := ⟨_, List.getElem?_eq_getElem (by rw [List.length_append]; omega)⟩
    obtain ⟨k1, hw1, hw2⟩ : ∃ k1, chkWs (decide (0 < t.paras.length - i)) t.notes.length p k = .inr k1 ∧ chkPs t.notes.length (t.paras.length - (i + 1)) ((t.paras ++ t.notes).drop (i + 1)) k1 = .inr t.notes.length := by
      have h := HEQ.out
      rw [dwl _ hp] at h
      simp only [chkPs] at h
      split at h
      · cases h
      · next k1 hk1 => exact ⟨k1, hk1, by rw [Nat.sub_sub] at h; exact h⟩
    have hpl := (HV.out.len p (List.mem_of_getElem? hp)).2
    obtain ⟨gb, off, cs, rfl, hgb, _, hrep, hcell⟩ := Lay.row_at HRWr.out hp
    obtain ⟨Ap, cp, rfl, _, hrowp⟩ := kWs_rep.1 hrep
    have hcl : wr.cell? ⟨gb, off + i, none⟩ = some (.slice Ap p.length cp) := by
      have := hcell 0 _ rfl
      rwa [kWs_sz, Nat.mul_one, Nat.add_zero] at this
    have HRP := Lib.hid hrowp
    have HW1 := Lib.hid hw1
    have HW2 := Lib.hid hw2
    have HB := Lib.hid (show (0 < t.paras.length - i) = (i < n) from propext (by have := HE1.out; omega))
    clear hp hw1 hw2 hcell hrep hrowp
    go_wp2_with fail
    go_loopw [4, 40] (fun s4 s40 w' => ChI wr (decide (i < n)) t.notes.length p k k1 s4 s40 w') (fun _ s40 _ => toM p.length s40)
    case atStart => exact ⟨0, k, by omega, by omega, rfl, rfl, Ext.refl _, by have := HW1.out; simp only [HB.out] at this; exact this⟩
    case round =>
      obtain ⟨j, k', hj, hk', rfl, rfl, hxi, heqi⟩ := hrel
      have hc0i := (hxi.cells.1 w.heap.size 0 (World.block_lt_of_cell? _ _ hc0r)).trans hc0r
      have hc1i := (hxi.cells.1 w.heap.size 1 (World.block_lt_of_cell? _ _ hc0r)).trans hc1r
      have hbi := World.block_lt_of_cell? _ _ hc0i
      have HXI := Lib.hid (HXR.out.trans hxi)
      have HXJ := Lib.hid hxi
      have HX3j := Lib.hid (HX3r.out.trans hxi)
      have HRPi := Lib.hid (Lay.row_ext HRP.out hxi)
      have HEQi := Lib.hid heqi
      clear hc0r hc1r hcl hxi heqi
      by_cases hjl : j < p.length
      case neg =>
        obtain rfl : j = p.length := by omega
        have hni : ¬ ((p.length : Int) < (p.length : Int)) := by omega
        have HK1 := Lib.hid (show k1 = (k' : Int) by
          have h := HEQi.out
          rw [List.drop_length, chkWs] at h
          injection h with h; exact h.symm)
        go_wp2_with fail
        go_roundw
        case rel =>
          refine ⟨i + 1, k', by rw [List.length_append]; omega, by omega, by simp, rfl, HX3j.out, ?_⟩
          have := HW2.out
          rwa [HK1.out] at this
        case measure => simp only [toM]; omega
      have hJ : (j : Int) < (p.length : Int) := by omega
      obtain ⟨x, hx⟩ : ∃ x, p[j]? = some x := ⟨_, List.getElem?_eq_getElem hjl⟩
      obtain ⟨v1, v2, v3, v4⟩ := chkWs_inv (by have h := HEQi.out; rw [dwl _ hx] at h; exact h)
      obtain ⟨g2, o2, cs, rfl, hg2, _, hrep, hcell⟩ := Lay.row_at HRPi.out hx
      rw [kWd_rep] at hrep
      subst hrep
      have c0 := hcell 0 _ rfl
      have c1 := hcell 1 _ rfl
      have c2 := hcell 2 _ rfl
      have c3' := hcell 3 _ rfl
      rw [kWd_sz] at c0 c1 c2 c3'
      rw [Nat.add_zero] at c0
      have HV1 := Lib.hid v1
      have HVA := Lib.hid (fun (S : List UInt8) X (hX : Ext w X) => gvalid_any ⟨S.toArray⟩ X (HLW.out.ext hX))
      clear hcell hx v1
      obtain ⟨x1, x2, x3, x4⟩ := x
      simp only at v2 v3 v4 c0 c1 c2 c3'
      have HVX := HVA.out x1
      have hv1 := HV1.out
      simp only at hv1
      rw [hv1] at HVX
      have HVYtdbnddmncbjobaaGreatDoor := Lib.hid HVX
      clear HVX hv1
      rcases v2 with rfl | v2
      · rcases v3 with rfl | rfl
        · rcases v4 with ⟨e4, e5⟩ | ⟨e4, e5, e6, e7, e8⟩
          · subst e4
            have HEN := Lib.hid e5
            clear e5
            go_wp2_with (first | (go_at_call 218; refine (HVYtdbnddmncbjobaaGreatDoor.out _ (HXI.out.alloc _)).mono ?_; rintro e w5 ⟨rfl, rfl⟩))
            go_roundw
            case rel => exact ⟨j + 1, k', by omega, by omega, by simp, rfl, HXJ.out.alloc _, HEN.out⟩
            case measure => simp only [toM]; omega
          · have hin := of_decide_eq_true e5
            have h1' : ¬ ((n : Int) ≤ (i : Int)) := by omega
            have h2' : ¬ ((n' : Int) < (k' : Int) + 1) := by have := HE2.out; omega
            have h3' : ¬ ((k' : Int) + 1 = 0) := by omega
            have HEN := Lib.hid e8
            subst e6
            clear e8 e7 e5 hin e4
            go_wp2_with (first | (go_at_call 218; refine (HVYtdbnddmncbjobaaGreatDoor.out _ (HXI.out.alloc _)).mono ?_; rintro e w5 ⟨rfl, rfl⟩))
            go_roundw
            case rel => exact ⟨j + 1, k' + 1, by omega, by omega, by simp, by simp, HXJ.out.alloc _, HEN.out⟩
            case measure => simp only [toM]; omega
        · rcases v4 with ⟨e4, e5⟩ | ⟨e4, e5, e6, e7, e8⟩
          · subst e4
            have HEN := Lib.hid e5
            clear e5
            go_wp2_with (first | (go_at_call 218; refine (HVYtdbnddmncbjobaaGreatDoor.out _ (HXI.out.alloc _)).mono ?_; rintro e w5 ⟨rfl, rfl⟩))
            go_roundw
            case rel => exact ⟨j + 1, k', by omega, by omega, by simp, rfl, HXJ.out.alloc _, HEN.out⟩
            case measure => simp only [toM]; omega
          · have hin := of_decide_eq_true e5
            have h1' : ¬ ((n : Int) ≤ (i : Int)) := by omega
            have h2' : ¬ ((n' : Int) < (k' : Int) + 1) := by have := HE2.out; omega
            have h3' : ¬ ((k' : Int) + 1 = 0) := by omega
            have HEN := Lib.hid e8
            subst e6
            clear e8 e7 e5 hin e4
            go_wp2_with (first | (go_at_call 218; refine (HVYtdbnddmncbjobaaGreatDoor.out _ (HXI.out.alloc _)).mono ?_; rintro e w5 ⟨rfl, rfl⟩))
            go_roundw
            case rel => exact ⟨j + 1, k' + 1, by omega, by omega, by simp, by simp, HXJ.out.alloc _, HEN.out⟩
            case measure => simp only [toM]; omega
      · by_cases hx2 : x2 = []
        · subst hx2
          exact absurd v2 (by decide)
        have HVY := HVA.out x2
        simp only [v2] at HVY
        have HVYY := Lib.hid HVY
        clear HVY v2
        rcases v3 with rfl | rfl
        · rcases v4 with ⟨e4, e5⟩ | ⟨e4, e5, e6, e7, e8⟩
          · subst e4
            have HEN := Lib.hid e5
            clear e5
            go_wp2_with (first | (go_at_call 218; first | refine (HVYtdbnddmncbjobaaGreatDoor.out _ (HXI.out.alloc _)).mono ?_ | refine (HVYY.out _ (HXI.out.alloc _)).mono ?_; rintro e w5 ⟨rfl, rfl⟩))
            go_roundw
            case rel => exact ⟨j + 1, k', by omega, by omega, by simp, rfl, HXJ.out.alloc _, HEN.out⟩
            case measure => simp only [toM]; omega
          · have hin := of_decide_eq_true e5
            have h1' : ¬ ((n : Int) ≤ (i : Int)) := by omega
            have h2' : ¬ ((n' : Int) < (k' : Int) + 1) := by have := HE2.out; omega
            have h3' : ¬ ((k' : Int) + 1 = 0) := by omega
            have HEN := Lib.hid e8
            subst e6
            clear e8 e7 e5 hin e4
            go_wp2_with (first | (go_at_call 218; first | refine (HVYtdbnddmncbjobaaGreatDoor.out _ (HXI.out.alloc _)).mono ?_ | refine (HVYY.out _ (HXI.out.alloc _)).mono ?_; rintro e w5 ⟨rfl, rfl⟩))
            go_roundw
            case rel => exact ⟨j + 1, k' + 1, by omega, by omega, by simp, by simp, HXJ.out.alloc _, HEN.out⟩
            case measure => simp only [toM]; omega
        · rcases v4 with ⟨e4, e5⟩ | ⟨e4, e5, e6, e7, e8⟩
          · subst e4
            have HEN := Lib.hid e5
            clear e5
            go_wp2_with (first | (go_at_call 218; first | refine (HVYtdbnddmncbjobaaGreatDoor.out _ (HXI.out.alloc _)).mono ?_ | refine (HVYY.out _ (HXI.out.alloc _)).mono ?_; rintro e w5 ⟨rfl, rfl⟩))
            go_roundw
            case rel => exact ⟨j + 1, k', by omega, by omega, by simp, rfl, HXJ.out.alloc _, HEN.out⟩
            case measure => simp only [toM]; omega
          · have hin := of_decide_eq_true e5
            have h1' : ¬ ((n : Int) ≤ (i : Int)) := by omega
            have h2' : ¬ ((n' : Int) < (k' : Int) + 1) := by have := HE2.out; omega
            have h3' : ¬ ((k' : Int) + 1 = 0) := by omega
            have HEN := Lib.hid e8
            subst e6
            clear e8 e7 e5 hin e4
            go_wp2_with (first | (go_at_call 218; first | refine (HVYtdbnddmncbjobaaGreatDoor.out _ (HXI.out.alloc _)).mono ?_ | refine (HVYY.out _ (HXI.out.alloc _)).mono ?_; rintro e w5 ⟨rfl, rfl⟩))
            go_roundw
            case rel => exact ⟨j + 1, k' + 1, by omega, by omega, by simp, by simp, HXJ.out.alloc _, HEN.out⟩
            case measure => simp only [toM]; omega
end Go.Proofs.YtdbnddmncbjobaaGreatDoor

/- para.Lines: walked. -/
namespace Go.Proofs.YtdbnddmncbjobaaGreatDoor
open Go Go.RowKit

variable {β : Type}
theorem chkWs_nt (b : Bool) (nn : Int) : ∀ (p : List Wd) (k k' : Int), 0 ≤ k → chkWs b nn p k = .inr k' → k ≤ k' ∧ ∀ w ∈ p, 0 ≤ w.nt ∧ (w.nt = 0 ∨ w.nt ≤ nn) := by
  intro p
  induction p with
  | nil => intro k k' _ h; simp only [chkWs] at h; injection h with h; exact ⟨by omega, fun w hw => by simp at hw⟩
  | cons a r ih =>
    intro k k' hk h
    obtain ⟨_, _, _, h4⟩ := chkWs_inv h
    rcases h4 with ⟨e, h5⟩ | ⟨e, _, e2, e3, h5⟩
    · obtain ⟨h6, h7⟩ := ih _ _ hk h5
      refine ⟨h6, fun w hw => ?_⟩
      rcases List.mem_cons.1 hw with rfl | hw
      · omega
      · exact h7 w hw
    · obtain ⟨h6, h7⟩ := ih _ _ (by omega) h5
      refine ⟨by omega, fun w hw => ?_⟩
      rcases List.mem_cons.1 hw with rfl | hw
      · omega
      · exact h7 w hw
theorem chkPs_nt (nn : Int) : ∀ (ps : List (List Wd)) (b : Nat) (k k' : Int), 0 ≤ k → chkPs nn b ps k = .inr k' → ∀ p ∈ ps, ∀ w ∈ p, 0 ≤ w.nt ∧ (w.nt = 0 ∨ w.nt ≤ nn) := by
  intro ps
  induction ps with
  | nil => intro b k k' _ _ p hp; simp at hp
  | cons a r ih =>
    intro b k k' hk h p hp
    simp only [chkPs] at h
    split at h
    · cases h
    · next k1 hk1 =>
      obtain ⟨h6, h7⟩ := chkWs_nt _ _ _ _ _ hk hk1
      rcases List.mem_cons.1 hp with rfl | hp
      · exact h7
      · exact ih _ _ _ (by omega) h p hp
theorem wsv_of {t : Tx} (h : chkT t = 0) : ∀ p ∈ t.paras ++ t.notes, WsV p ∧ p.length ≤ 500 := fun p hp => by
  have hv := chkT_val h
  have hn := chkPs_nt _ _ _ _ _ (Int.le_refl 0) (chkPs_inv h) p hp
  refine ⟨fun w hw => ?_, (hv.len p hp).2⟩
  have h1 := hv.ok p hp w hw
  have h2 := hn w hw
  have h3 := hv.nn
  unfold validW at h1
  have := of_decide_eq_true h1
  omega
/-- append of a row that lies in blocks apart. -/
theorem own_appR {k : Lay β} {Pr : Program} {t e : TypeId} {z : Value} {bytes : Nat} (ht : Pr.underlying t = some (.slice e)) (hinfo : (Pr.info? e).map (fun i => (i.zero, i.size, i.bytes)) = some (some z, k.sz, bytes)) (hzs : z.cells.size = k.sz) (hsz : 0 < k.sz) (hby : bytes ≤ 1000)
    {X : World} {base : Nat} {P : Nat → Prop} {v : Value} {xs ys : List β} (h : k.own e X base P v xs) {A : Option Addr} {m : Nat} (hr : k.row X (fun j => P j ∧ v.ownBlock ≠ some j) A m ys) (c : Nat) (hm : xs.length + m ≤ 100000000) (hbase : base ≤ X.heap.size) :
    ∃ A' c' w', (Builtin.append_ #[t, t] t #[v, .slice A m c]).run Pr X = .ok (.slice A' (xs.length + m) c') w' ∧ k.own e w' base P (.slice A' (xs.length + m) c') (xs ++ ys) ∧ (∀ B, B ≤ base → Below B X w') ∧
      (∀ j, j < X.heap.size → v.ownBlock ≠ some j → w'.heap[j]? = X.heap[j]?) ∧ X.heap.size ≤ w'.heap.size ∧ (∀ j, (Value.slice A' (xs.length + m) c').ownBlock = some j → v.ownBlock = some j ∨ X.heap.size ≤ j) := by
  obtain ⟨ds, h1, h2, h3, h4, h5⟩ := hr
  exact Lay.own_append (e := e) ht hinfo hzs hsz hby h (ds' := ds) (ys := ys) h3 h2 h5 c hm hbase
theorem setsP_take (m : Int) : ∀ (ps : List (List Wd)) (f : Int) (i : Nat) (p : List Wd), ps[i]? = some p → setsP m (ps.take (i + 1)) f = setsP m (ps.take i) f ++ [setP p (f + (((ps.take i).map List.length).sum : Nat)) m] := by
  intro ps
  induction ps with
  | nil => intro f i p h; simp at h
  | cons a r ih =>
    intro f i p h
    cases i with
    | zero => injection h with h; subst h; simp [setsP]
    | succ i =>
      have := ih (f + a.length) i p h
      simp only [List.take_succ_cons, setsP, List.cons_append, List.map_cons, List.sum_cons]
      rw [this, Int.add_assoc, ← Int.natCast_add]
theorem sumL_take (ps : List (List Wd)) {i : Nat} {p : List Wd} (h : ps[i]? = some p) : ((ps.take (i + 1)).map List.length).sum = ((ps.take i).map List.length).sum + p.length := by
  rw [List.take_add_one, h]; simp
theorem sumL_le (ps : List (List Wd)) (h : ∀ p ∈ ps, p.length ≤ 500) : (ps.map List.length).sum ≤ 500 * ps.length := by
  induction ps with
  | nil => simp
  | cons a r ih =>
    have h1 := h a (by simp)
    have h2 := ih fun p hp => h p (List.mem_cons_of_mem _ hp)
    simp only [List.map_cons, List.sum_cons, List.length_cons]; omega
theorem setP_le (p : List Wd) (f m : Int) (hm : 500 ≤ m) (hv : WsV p) : (setP p f m).length ≤ p.length := by
  rw [setP_lens]
  have h1 := lens_ok (m := m) hm hv.wdr.wds
  have h2 := len_le_sum _ h1.1
  rw [h1.2] at h2
  unfold wdsL at h2
  rw [List.length_map] at h2
  exact h2
theorem setsP_flat_le (m : Int) (hm : 500 ≤ m) : ∀ (ps : List (List Wd)) (f : Int), (∀ p ∈ ps, WsV p) → (setsP m ps f).flatten.length ≤ (ps.map List.length).sum := by
  intro ps
  induction ps with
  | nil => intro f _; simp [setsP]
  | cons a r ih =>
    intro f h
    have h1 := setP_le a f m hm (h a (by simp))
    have h2 := ih (f + a.length) fun p hp => h p (List.mem_cons_of_mem _ hp)
    simp only [setsP, List.flatten_cons, List.length_append, List.map_cons, List.sum_cons]; omega
theorem setsP_len (m : Int) : ∀ (ps : List (List Wd)) (f : Int), (setsP m ps f).length = ps.length := by
  intro ps
  induction ps with
  | nil => intro f; rfl
  | cons a r ih => intro f; simp [setsP, ih]
/-- The body is set as far as i. -/
def LiB (w1 : World) (m : Int) (ps : List (List Wd)) (s8 s10 s29 : Value) (w' : World) : Prop := ∃ i F : Nat, i ≤ ps.length ∧ s29 = .int .i64 i ∧ s10 = .int .i64 F ∧ F = ((ps.take i).map List.length).sum ∧ Ext w1 w' ∧ kLn.own 86 w' w1.heap.size (fun j => w1.heap.size ≤ j) s8 (setsP m (ps.take i) 0).flatten
/-- The notes are set as far as i. -/
def LiN (w2 : World) (m : Int) (ps : List (List Wd)) (f0 : Nat) (s9 s10 s47 : Value) (w' : World) : Prop := ∃ i F : Nat, i ≤ ps.length ∧ s47 = .int .i64 i ∧ s10 = .int .i64 F ∧ F = f0 + ((ps.take i).map List.length).sum ∧ Ext w2 w' ∧ kLs.own 82 w' w2.heap.size (fun j => w2.heap.size ≤ j) s9 (setsP m (ps.take i) f0)
theorem info82 : (Tryz.prog.info? 82).map (fun i => (i.zero, i.size, i.bytes)) = some (some (Value.slice none 0 0), 1, 24) := by kernel_rfl
theorem kLs_sz : kLs.sz = 1 := rfl
set_option maxHeartbeats 8000000 in
set_option maxRecDepth 100000 in
theorem lines_any (P : Nat → Prop) (w : World) (t : Tx) (m : Int) (A A' : Option Addr) (n n' c c' : Nat) (h1 : kWs.row w P A n t.paras) (h2 : kWs.row w P A' n' t.notes) (hc : chkT t = 0) (hm0 : 500 ≤ m) (hm : m ≤ 2000) (hL : EnvW w) :
    Calls Tryz.prog 148 #[.agg #[.slice A n c, .slice A' n' c'], .int .i64 m] w (fun e w' => ∃ A1 c1 A2 c2, e = .returned (.tuple #[.slice A1 (linesT t m).2.1.length c1, .slice A2 (linesT t m).2.2.length c2, .int .i64 0]) ∧
      kLn.own 86 w' w.heap.size (fun j => w.heap.size ≤ j) (.slice A1 (linesT t m).2.1.length c1) (linesT t m).2.1 ∧ kLs.own 82 w' w.heap.size (fun j => w.heap.size ≤ j) (.slice A2 (linesT t m).2.2.length c2) (linesT t m).2.2 ∧ Ext w w') := by
  have HE1 := Lib.hid (Lay.row_len h1)
  have HE2 := Lib.hid (Lay.row_len h2)
  have HR1 := Lib.hid h1
  have HR2 := Lib.hid h2
  have HV := Lib.hid (wsv_of hc)
  have HCK := Lib.hid (fun X (hX : Ext w X) => check_any P X t A A' n n' c c' (Lay.row_ext h1 hX) (Lay.row_ext h2 hX) hc (hL.ext hX))
  have HENV := Lib.hid hL
  have HT := Lib.hid (show linesT t m = (0, (setsP m t.paras 0).flatten, setsP m t.notes (t.paras.map List.length).sum) by
    unfold linesT
    rw [if_neg (by omega), if_neg (by omega)])
  have hnp := (chkT_val hc).np
  have hnn := (chkT_val hc).nn
  have m1 : ¬ m < 500 := by omega
  have m2 : ¬ (2000 : Int) < m := by omega
  clear h1 h2 hc hL
  go_enter Tryz.func148, Tryz.ntmps148
  go_wp2_with (first | (go_at_call 184; refine (HCK.out _ ((Ext.refl w).alloc _)).mono ?_; rintro e w1 ⟨rfl, hx⟩; have hc0 := (hx.cells.1 w.heap.size 0 (by simp)).trans (by go_simp : _ = some (.slice A n c)); have hc1 := (hx.cells.1 w.heap.size 1 (by simp)).trans (by go_simp : _ = some (.slice A' n' c')); have HX := Lib.hid (((Ext.refl w).alloc _).trans hx); clear hx))
  go_loopw [8, 10, 29] (fun s8 s10 s29 w' => LiB w1 m t.paras s8 s10 s29 w') (fun _ _ s29 _ => toM n s29)
  case atStart => exact ⟨0, 0, by omega, rfl, rfl, rfl, Ext.refl _, Lay.own_nil _ _ _ _ _⟩
  case round =>
    obtain ⟨i, F, hi, rfl, rfl, hF, hx, ho⟩ := hrel
    have HXr := Lib.hid hx
    have HO := Lib.hid ho
    have HF := Lib.hid hF
    have hc0r := (hx.cells.1 w.heap.size 0 (World.block_lt_of_cell? w1 _ hc0)).trans hc0
    have hc1r := (hx.cells.1 w.heap.size 1 (World.block_lt_of_cell? w1 _ hc0)).trans hc1
    clear hx ho hF hc0 hc1
    by_cases hlt : i < n
    case neg =>
      obtain rfl : n = i := by have := HE1.out; omega
      have hni : ¬ ((n : Int) < (n : Int)) := by omega
      obtain ⟨A1, c1, rfl, hl1, _⟩ := Lay.own_row HO.out
      have HTK := Lib.hid (show t.paras.take n = t.paras by rw [HE1.out]; exact List.take_length)
      rw [HTK.out] at HO HF hl1
      have hww := Nat.le_trans HX.out.lt HXr.out.lt
      have HB := Lib.hid (show kLn.own 86 wr w.heap.size (fun j => w.heap.size ≤ j ∧ j < wr.heap.size) (.slice A1 (setsP m t.paras 0).flatten.length c1) (setsP m t.paras 0).flatten from own_base (Lay.own_mono HO.out fun j hj hl => ⟨Nat.le_trans HX.out.lt hj, hl⟩) HX.out.lt)
      go_wp2_with fail
      obtain ⟨wb, hwb⟩ : ∃ wb, wb = wr := ⟨_, rfl⟩
      rw [← hwb] at HXr HB hww ⊢
      clear hwb HO
      go_loopw [9, 10, 47] (fun s9 s10 s47 w' => LiN wb m t.notes F s9 s10 s47 w') (fun _ _ s47 _ => toM n' s47)
      case atStart => exact ⟨0, F, by omega, rfl, rfl, by simp, Ext.refl _, Lay.own_nil _ _ _ _ _⟩
      case round =>
        obtain ⟨i, F', hi, rfl, rfl, hF', hx, ho⟩ := hrel
        have HXn := Lib.hid hx
        have HOn := Lib.hid ho
        have HF' := Lib.hid hF'
        clear hx ho hF'
        by_cases hlt2 : i < n'
        case neg =>
          obtain rfl : n' = i := by have := HE2.out; omega
          have hni : ¬ ((n' : Int) < (n' : Int)) := by omega
          obtain ⟨A2, c2, rfl, _⟩ := Lay.own_row HOn.out
          have HTN := Lib.hid (show t.notes.take n' = t.notes by rw [HE2.out]; exact List.take_length)
          rw [HTN.out] at HOn
          go_wp2_with fail
          refine bodyPost_ret (v := .tuple #[.slice A1 (setsP m (t.paras.take n) 0).flatten.length c1, .slice A2 (setsP m (t.notes.take n') F).length c2, .int .i64 0]) (by simp [results, Tryz.results148, go_sem, *]) rfl ?_
          rw [HTN.out, HTK.out, HF.out]
          have hT := HT.out
          rw [HF.out] at HOn
          have e1 : (linesT t m).2.1 = (setsP m t.paras 0).flatten := by rw [hT]
          have e2 : (linesT t m).2.2 = setsP m t.notes (t.paras.map List.length).sum := by rw [hT]
          rw [e1, e2]
          exact ⟨A1, c1, A2, c2, rfl, Lay.own_mono (Lay.own_keep HB.out HXn.out.lt fun j hj hl => HXn.out.block j hl) (fun j hj _ => hj.1), own_base (Lay.own_mono HOn.out fun j hj _ => by omega) hww, HX.out.trans (HXr.out.trans HXn.out)⟩
        have hI2 : (i : Int) < (n' : Int) := by omega
        obtain ⟨p, hp⟩ : ∃ p, t.notes[i]? = some p := ⟨_, List.getElem?_eq_getElem (by have := HE2.out; omega)⟩
        obtain ⟨b0, off, cs, rfl, hb0, _, hrep, hcell⟩ := Lay.row_at (Lay.row_ext HR2.out (HX.out.trans (HXr.out.trans HXn.out))) hp
        obtain ⟨Ap, cp, rfl, hcp, hrp⟩ := kWs_rep.1 hrep
        have hce := hcell 0 _ rfl
        rw [kWs_sz, Nat.mul_one, Nat.add_zero] at hce
        have hpv := HV.out p (List.mem_append_right _ (List.mem_of_getElem? hp))
        have hF5 : F ≤ 50000 := by
          have h9 := sumL_le t.paras fun q hq => (HV.out q (List.mem_append_left _ hq)).2
          rw [← HF.out] at h9
          omega
        have hF6 : F' ≤ 100000 := by
          have h9 := sumL_le (t.notes.take i) fun q hq => (HV.out q (List.mem_append_right _ (List.mem_of_mem_take hq))).2
          have := HF'.out
          rw [List.length_take] at h9
          omega
        have HSET := Lib.hid (set_any P wr Ap p.length cp p (F' : Int) m hrp hcp hpv.1 hpv.2 (by omega) (by omega) hm0 hm (HENV.out.ext (HX.out.trans (HXr.out.trans HXn.out))))
        have hpl := hpv.2
        have hpv1 := hpv.1
        have HP := Lib.hid hp
        clear hrep hrp hcell hpv hp
        go_wp2_with fail
        refine HSET.out.mono ?_
        rintro e w2 ⟨As, cz, rfl, hcz, hos, hx2⟩
        have hlto := Lay.own_lt HOn.out
        obtain ⟨Ax, cx, e9, _, hrow⟩ := own_rowN (Q := fun j => wr.heap.size ≤ j) hos (fun j hj _ => hj) (fun j hj _ => hj)
        have e9a : As = Ax := by injection e9
        rw [← e9a] at hrow
        clear e9 e9a
        have hll : (setsP m (t.notes.take i) F).length ≤ 100 := by rw [setsP_len, List.length_take]; omega
        obtain ⟨A9, c9, w9, hrun, ho9, hb9, hk9, hs9, hn9⟩ := own_app1 (k := kLs) (Pr := Tryz.prog) (t := 162) Tryz.underlying162 info82 rfl (by decide) (by omega) (Lay.own_ext HOn.out hx2) (Nat.le_trans HXn.out.lt hx2.lt) (cs := #[.slice As (setP p (F' : Int) m).length cz]) (T := 82) (x := setP p (F' : Int) m) ⟨As, _, cz, rfl, hcz, Lay.row_mono hrow fun j hj _ => ⟨Nat.le_trans HXn.out.lt hj, fun e => by have := (hlto j e).2; omega⟩⟩ 1 (by omega)
        have HRUN := Lib.hid hrun
        have HREL := Lib.hid (fun (z : Int) (hz : z = (F' : Int) + p.length) => show LiN wb m t.notes F (.slice A9 ((setsP m (t.notes.take i) F).length + 1) c9) (.int .i64 z) (.int .i64 ((i : Int) + 1)) w9 from ⟨i + 1, F' + p.length, by have := HE2.out; omega, by simp, by rw [hz]; simp, by rw [sumL_take _ HP.out, HF'.out]; omega, Below.trans (HXn.out.trans hx2) (hb9 _ (Nat.le_refl _)), by
          rw [setsP_take m t.notes F i p HP.out, ← Int.natCast_add, ← HF'.out]
          exact ho9⟩)
        clear hrun ho9 hb9 hk9 hs9 hn9 hrow hos hx2 hlto hll hpv1
        go_wp2_with (first | (at_builtin; refine wpList_append_run (s := .tmp 51) (x := .tmp 56) HRUN.out rfl rfl rfl rfl rfl ?_))
        go_roundw
        case rel => exact HREL.out _ rfl
        case measure => simp only [toM]; omega
    have hI : (i : Int) < (n : Int) := by omega
    obtain ⟨p, hp⟩ : ∃ p, t.paras[i]? = some p := ⟨_, List.getElem?_eq_getElem (by have := HE1.out; omega)⟩
    obtain ⟨b0, off, cs, rfl, hb0, _, hrep, hcell⟩ := Lay.row_at (Lay.row_ext HR1.out (HX.out.trans HXr.out)) hp
    obtain ⟨Ap, cp, rfl, hcp, hrp⟩ := kWs_rep.1 hrep
    have hce := hcell 0 _ rfl
    rw [kWs_sz, Nat.mul_one, Nat.add_zero] at hce
    have hpv := HV.out p (List.mem_append_left _ (List.mem_of_getElem? hp))
    have hF5 : F ≤ 50000 := by
      have h9 := sumL_le (t.paras.take i) fun q hq => (HV.out q (List.mem_append_left _ (List.mem_of_mem_take hq))).2
      rw [← HF.out, List.length_take] at h9
      omega
    have HSET := Lib.hid (set_any P wr Ap p.length cp p (F : Int) m hrp hcp hpv.1 hpv.2 (by omega) (by omega) hm0 hm (HENV.out.ext (HX.out.trans HXr.out)))
    have hpl := hpv.2
    have hpv1 := hpv.1
    have HP := Lib.hid hp
    clear hrep hrp hcell hpv hp
    go_wp2_with fail
    refine HSET.out.mono ?_
    rintro e w2 ⟨As, cz, rfl, _, hos, hx2⟩
    have hlto := Lay.own_lt HO.out
    obtain ⟨Ax, cx, e9, _, hrow⟩ := own_rowN (Q := fun j => w1.heap.size ≤ j ∧ u8.ownBlock ≠ some j) hos (fun j hj _ => ⟨Nat.le_trans HXr.out.lt hj, fun e => by have := (hlto j e).2; omega⟩) (fun j hj _ => ⟨Nat.le_trans HXr.out.lt hj, fun e => by have := (hlto j e).2; omega⟩)
    have e9a : As = Ax := by injection e9
    rw [← e9a] at hrow
    clear e9 e9a
    have hll := setP_le p (F : Int) m hm0 hpv1
    have hfl := setsP_flat_le m hm0 (t.paras.take i) 0 fun q hq => (HV.out q (List.mem_append_left _ (List.mem_of_mem_take hq))).1
    rw [← HF.out] at hfl
    obtain ⟨A9, c9, w9, hrun, ho9, hb9, hk9, hs9, hn9⟩ := own_appR (k := kLn) (Pr := Tryz.prog) (t := 82) Tryz.underlying82 info86 rfl (by decide) (by omega) (Lay.own_ext HO.out hx2) hrow cz (by omega) (Nat.le_trans HXr.out.lt hx2.lt)
    have HRUN := Lib.hid hrun
    have HREL := Lib.hid (show LiB w1 m t.paras (.slice A9 ((setsP m (t.paras.take i) 0).flatten.length + (setP p (F : Int) m).length) c9) (.int .i64 ((F : Int) + p.length)) (.int .i64 ((i : Int) + 1)) w9 from ⟨i + 1, F + p.length, by have := HE1.out; omega, by simp, by simp, by rw [sumL_take _ HP.out, ← HF.out], Below.trans (HXr.out.trans hx2) (hb9 _ (Nat.le_refl _)), by
      rw [setsP_take m t.paras 0 i p HP.out, List.flatten_append, ← HF.out, Int.zero_add]
      simpa using ho9⟩)
    clear hrun ho9 hb9 hk9 hs9 hn9 hrow hos hx2 hlto hll hfl hpv1
    go_wp2_with (first | (at_builtin; refine wpList_append_run (s := .tmp 33) (x := .tmp 37) HRUN.out rfl rfl rfl rfl rfl ?_))
    go_roundw
    case rel =>
      have h9 := HREL.out
      rwa [List.length_flatten] at h9
    case measure => simp only [toM]; omega
end Go.Proofs.YtdbnddmncbjobaaGreatDoor

/- page.check at lines that are right: walked. -/
namespace Go.Proofs.YtdbnddmncbjobaaGreatDoor
open Go Go.RowKit

theorem lnone_any (A : Option Addr) (n c : Nat) (w : World) : Calls Tryz.prog 223 #[.slice A n c] w (fun e w' => e = .returned (.bool (decide (n = 0))) ∧ w' = w) := by
  obtain ⟨q, hq⟩ : ∃ q, q = decide (n = 0) := ⟨_, rfl⟩
  have HQ := Lib.hid hq
  by_cases h : n = 0
  · subst h
    go_enter Tryz.func223, Tryz.ntmps223
    go_wp2_with fail
    go_ret
    exact ⟨rfl, rfl⟩
  · have h' : ¬ (n : Int) = 0 := by omega
    clear hq HQ
    go_enter Tryz.func223, Tryz.ntmps223
    go_wp2_with fail
    go_ret
    exact ⟨by rw [decide_eq_false h]; simp [h], rfl⟩
theorem lines_none (P : Nat → Prop) (W : World) (A : Option Addr) (n c : Nat) (xs : List (List Ln)) (h : kLs.row W P A n xs) (hn : n ≤ 100000) :
    Calls Tryz.prog 222 #[.slice A n c, .func (.func 223) #[] #[]] W (fun e W' => e = .returned (.bool (xs.any fun p => decide (p.length = 0))) ∧ Ext W W') :=
  con222_223 kLs rfl _ P W A n c xs h hn fun X x u hx hr => by
    obtain ⟨A', n', c', e, _, h2⟩ := hr
    have hl := Lay.row_len h2
    subst hl
    obtain rfl : u = .slice A' x.length c' := by simpa using e
    exact (lnone_any A' x.length c' X).mono fun e w' ⟨h1, h2⟩ => ⟨h1, by rw [h2]; exact Ext.refl _⟩
theorem ordN_inv {nn n : Int} {r : List Int} {k K : Int} (h : ordN nn (n :: r) k = some K) : n = k ∧ n < nn ∧ ordN nn r (k + 1) = some K := by
  simp only [ordN] at h
  split at h
  · cases h
  · next h1 => exact ⟨by omega, by omega, h⟩
theorem ordL_inv {nn : Int} {x : Ln} {r : List Ln} {k K : Int} (h : ordL nn (x :: r) k = some K) : ∃ k1, ordN nn x.nts k = some k1 ∧ ordL nn r k1 = some K := by
  simp only [ordL] at h
  cases hx : ordN nn x.nts k with
  | none => rw [hx] at h; simp at h
  | some k1 => rw [hx] at h; exact ⟨k1, rfl, by simpa using h⟩
theorem chkPg_inv {body : List Ln} {notes : List (List Ln)} {h : Int} (hc : chkPg body notes h = 0) : 4 ≤ h ∧ h ≤ 100 ∧ notes.any (fun l => decide (l.length = 0)) = false ∧ ∃ K, ordL notes.length body 0 = some K ∧ (notes.length : Int) ≤ K := by
  unfold chkPg at hc
  split at hc
  · cases hc
  · next h1 =>
    split at hc
    · cases hc
    · next h2 =>
      refine ⟨by omega, by omega, by rw [Bool.eq_false_iff]; exact h2, ?_⟩
      split at hc
      · cases hc
      · next k hk =>
        split at hc
        · cases hc
        · next h3 => exact ⟨k, hk, by omega⟩
def PkO (w : World) (nn : Nat) (body : List Ln) (K : Int) (s7 s22 : Value) (w' : World) : Prop := ∃ i k : Nat, i ≤ body.length ∧ k ≤ nn ∧ s22 = .int .i64 i ∧ s7 = .int .i64 k ∧ Ext w w' ∧ ordL nn (body.drop i) k = some K
def PkI (w : World) (nn k0 : Nat) (l : List Int) (k1 : Int) (s7 s29 : Value) (w' : World) : Prop := ∃ j k : Nat, j ≤ l.length ∧ k = k0 + j ∧ k ≤ nn ∧ s29 = .int .i64 j ∧ s7 = .int .i64 k ∧ Ext w w' ∧ ordN nn (l.drop j) k = some k1
set_option maxHeartbeats 8000000 in
set_option maxRecDepth 100000 in
theorem pgcheck_any (P : Nat → Prop) (w : World) (A A' : Option Addr) (n n' c c' : Nat) (body : List Ln) (notes : List (List Ln)) (h : Int) (h1 : kLn.row w P A n body) (h2 : kLs.row w P A' n' notes) (hc : chkPg body notes h = 0) (hn : n ≤ 100000) (hn' : n' ≤ 100000) :
    Calls Tryz.prog 186 #[.slice A n c, .slice A' n' c', .int .i64 h] w (fun e w' => e = .returned (.int .i64 0) ∧ Ext w w') := by
  obtain ⟨k1, k2, k3, K, k4, k5⟩ := chkPg_inv hc
  have HE1 := Lib.hid (Lay.row_len h1)
  have HE2 := Lib.hid (Lay.row_len h2)
  have HR1 := Lib.hid h1
  have hnn := lines_none P w A' n' c' notes h2 hn'
  rw [k3] at hnn
  have HNN := Lib.hid hnn
  have HK4 := Lib.hid k4
  rw [← HE2.out] at HK4
  rw [← HE2.out] at k5
  have m1 : ¬ h < 4 := by omega
  have m2 : ¬ (100 : Int) < h := by omega
  clear h1 h2 hc k3 k4 hnn
  go_enter Tryz.func186, Tryz.ntmps186
  go_wp2_with (first | (go_at_call 222; refine HNN.out.mono ?_; rintro e w1 ⟨rfl, hx⟩; have HX := Lib.hid hx; clear hx))
  go_loopw [7, 22] (fun s7 s22 w' => PkO w1 n' body K s7 s22 w') (fun _ s22 _ => toM n s22)
  case atStart => exact ⟨0, 0, by omega, by omega, rfl, rfl, Ext.refl _, HK4.out⟩
  case round =>
    obtain ⟨i, k, hi, hk, rfl, rfl, hx, heq⟩ := hrel
    have HXr := Lib.hid hx
    have HEQ := Lib.hid heq
    clear hx heq
    by_cases hlt : i < n
    case neg =>
      obtain rfl : n = i := by have := HE1.out; omega
      have hni : ¬ ((n : Int) < (n : Int)) := by omega
      have hKk : K = k := by
        have h9 := HEQ.out
        rw [List.drop_of_length_le (by have := HE1.out; omega)] at h9
        injection h9 with h9
        exact h9.symm
      have hkn : ¬ ((k : Int) < (n' : Int)) := by omega
      go_wp2_with fail
      go_ret
      exact ⟨rfl, HX.out.trans HXr.out⟩
    have hI : (i : Int) < (n : Int) := by omega
    obtain ⟨x, hx⟩ : ∃ x, body[i]? = some x := ⟨_, List.getElem?_eq_getElem (by have := HE1.out; omega)⟩
    obtain ⟨k1, hk1, hk2⟩ := ordL_inv (by have h9 := HEQ.out; rw [dwl' _ hx] at h9; exact h9)
    obtain ⟨b0, off, cs, rfl, hb0, _, hrep, hcell⟩ := Lay.row_at (Lay.row_ext HR1.out (HX.out.trans HXr.out)) hx
    obtain ⟨A1, n1, c1, A2, n2, c2, rfl, _, _, hr1, hr2⟩ := kLn_rep.1 hrep
    have c0 := hcell 0 _ rfl
    have c1' := hcell 1 _ rfl
    have c2' := hcell 2 _ rfl
    have c3' := hcell 3 _ rfl
    rw [kLn_sz] at c0 c1' c2' c3'
    rw [Nat.add_zero] at c0
    have HR2 := Lib.hid hr2
    have HE3 := Lib.hid (Lay.row_len hr2)
    have HK1 := Lib.hid hk1
    have HK2 := Lib.hid hk2
    obtain ⟨x1, x2, x3, x4⟩ := x
    simp only at c0 c1' HR2 HE3 HK1
    clear hrep hcell hr1 hr2 hk1 hk2 hx
    go_wp2_with fail
    go_loopw [7, 29] (fun s7 s29 w' => PkI wr n' k x4 k1 s7 s29 w') (fun _ s29 _ => toM n2 s29)
    case atStart => exact ⟨0, k, by omega, rfl, hk, rfl, rfl, (Ext.refl _).alloc _, HK1.out⟩
    case round =>
      obtain ⟨j, k', hj, hkj, hk', rfl, rfl, hxi, heqi⟩ := hrel
      have hjn : j ≤ n' := by omega
      have HKJ := Lib.hid hkj
      clear hkj
      have HXi := Lib.hid hxi
      have HEQi := Lib.hid heqi
      clear hxi heqi
      by_cases hjl : j < n2
      case neg =>
        obtain rfl : n2 = j := by have := HE3.out; omega
        have hnj : ¬ ((n2 : Int) < (n2 : Int)) := by omega
        have HK := Lib.hid (show k1 = (k' : Int) by
          have h9 := HEQi.out
          rw [List.drop_of_length_le (by have := HE3.out; omega)] at h9
          injection h9 with h9
          exact h9.symm)
        go_wp2_with fail
        go_roundw
        case rel => exact ⟨i + 1, k', by have := HE1.out; omega, hk', by simp, rfl, HXr.out.trans HXi.out, by have h9 := HK2.out; rwa [HK.out] at h9⟩
        case measure => simp only [toM]; omega
      have hJ : (j : Int) < (n2 : Int) := by omega
      obtain ⟨y, hy⟩ : ∃ y, x4[j]? = some y := ⟨_, List.getElem?_eq_getElem (by have := HE3.out; omega)⟩
      obtain ⟨e1, e2, e3⟩ := ordN_inv (by have h9 := HEQi.out; rw [dwl' _ hy] at h9; exact h9)
      subst e1
      obtain ⟨b2, o2, rfl, hb2, _, hcell⟩ := int_at (Lay.row_ext HR2.out HXi.out) hy
      have HE := Lib.hid e3
      have e2' : ¬ ((n' : Int) ≤ (k' : Int)) := by omega
      clear hy e3
      go_wp2_with fail
      go_roundw
      case rel => exact ⟨j + 1, k' + 1, by have := HE3.out; omega, by have := HKJ.out; omega, by omega, by simp, by simp, HXi.out, HE.out⟩
      case measure => simp only [toM]; omega
end Go.Proofs.YtdbnddmncbjobaaGreatDoor

/- slices.Clone at numbers in any row; page.clone: walked. -/
namespace Go.Proofs.YtdbnddmncbjobaaGreatDoor
open Go Go.RowKit

theorem ints_own {w : World} {base : Nat} {v : Value} {n : Nat} {xs : List Int} {P : Nat → Prop} (hn : n = xs.length) (h : w.ownsRow base 3 1 v n (xs.map (Value.int .i64))) : kInt.own 3 w base P v xs := by
  subst hn
  refine ⟨xs.map iCs, ?_, List.length_map .., fun i d x hd hx => ?_⟩
  · unfold OL
    rw [gcells_ints, List.length_map]
    exact h
  · obtain ⟨y, hy, rfl⟩ := iCs_at hd
    rw [hy] at hx
    injection hx with hx
    subst hx
    rfl
/-- slices.Clone of numbers. -/
theorem clone_int (P Q : Nat → Prop) (w : World) (A : Option Addr) (n c : Nat) (xs : List Int) (h : kInt.row w P A n xs) (hn : n ≤ 1000000) :
    Calls Tryz.prog 128 #[.slice A n c] w (fun e w' => ∃ A' c', e = .returned (.slice A' n c') ∧ n ≤ c' ∧ kInt.own 3 w' w.heap.size Q (.slice A' n c') xs ∧ Ext w w') := by
  have hl := Lay.row_len h
  have fin : ∀ (v' : Value) (w' : World), kInt.own 3 w' w.heap.size Q v' xs → Ext w w' → ∃ A' c', Ending.returned v' = .returned (.slice A' n c') ∧ n ≤ c' ∧ kInt.own 3 w' w.heap.size Q (.slice A' n c') xs ∧ Ext w w' := fun v' w' h1 h2 => by
    obtain ⟨A', c', e, hc, _⟩ := Lay.own_row h1
    subst e
    rw [hl]
    exact ⟨A', c', rfl, hc, h1, h2⟩
  cases A with
  | none =>
    have h0 : n = 0 := by
      obtain ⟨ds, h1, h2, h3, _⟩ := h
      rcases Nat.eq_zero_or_pos n with h | h
      · exact h
      · obtain ⟨b, off, e, _⟩ := h3.2 h; cases e
    have hx : xs = [] := List.eq_nil_of_length_eq_zero (by omega)
    subst h0 hx
    exact (Tryz.slices_Clone_int_nil 0 c w).mono fun e w' ⟨h1, h2⟩ => ⟨none, 0, h1, Nat.le_refl _, Lay.own_nil _ _ _ _ _, by rw [h2]; exact Ext.refl _⟩
  | some a =>
    rcases Nat.eq_zero_or_pos n with h0 | h0
    · have hx : xs = [] := List.eq_nil_of_length_eq_zero (by omega)
      subst h0 hx
      exact (Tryz.slices_Clone_int_zero a c w).mono fun e w' ⟨v', h1, h2, _, h3⟩ => by
        rw [h1]
        exact fin v' w' (ints_own rfl (by simpa using h2)) h3
    · obtain ⟨x0, hx0⟩ : ∃ x, xs[0]? = some x := ⟨_, List.getElem?_eq_getElem (by omega)⟩
      obtain ⟨b, off, e, _, _, _⟩ := int_at h hx0
      injection e with e
      subst e
      have hcell : ∀ j, j < xs.length → w.cell? ⟨b, off + j, none⟩ = some (.int .i64 (xs.getD j 0)) := fun j hj => by
        obtain ⟨b', off', e', _, _, hc⟩ := int_at h (List.getElem?_eq_getElem hj)
        injection e' with e'
        injection e' with e1 e2
        subst e1 e2
        rw [hc, List.getD_eq_getElem?_getD, List.getElem?_eq_getElem hj]
        rfl
      exact (Tryz.slices_Clone_int b off n c xs w (by omega) (by omega) hcell).mono fun e w' ⟨v', h1, h2, _, h3⟩ => by
        rw [h1]
        rw [List.take_of_length_le (by omega)] at h2
        exact fin v' w' (ints_own hl h2) h3
/-- The first i lines of the copy are its own. -/
def CnR (w : World) (g : Nat) (ls : List Ln) (s16 : Value) (w' : World) : Prop := ∃ (i : Nat) (ds : List (Cs kLn.sz)), i ≤ ls.length ∧ s16 = .int .i64 i ∧ Ext w w' ∧ w'.heap[g]? = some (.cells (gcells ccf ds).toArray 86 (0, 0)) ∧ ds.length = ls.length ∧
  ∀ (j : Nat) (d : Cs kLn.sz) (x : Ln), ds[j]? = some d → ls[j]? = some x → (j < i → kLn.rep w' (fun q => w.heap.size ≤ q ∧ q ≠ g) x (ccf d)) ∧ ∃ u v, ccf d = [.int .i64 x.fr, .int .i64 x.un, u, v]
theorem CnR_own {w w' : World} {g n : Nat} {ls : List Ln} {ds : List (Cs kLn.sz)} (hn : n = ls.length) (hn2 : n ≤ 1000000) (hg : w.heap.size ≤ g) (h1 : w'.heap[g]? = some (.cells (gcells ccf ds).toArray 86 (0, 0))) (h2 : ds.length = ls.length)
    (h3 : ∀ (j : Nat) (d : Cs kLn.sz) (x : Ln), ds[j]? = some d → ls[j]? = some x → kLn.rep w' (fun q => w.heap.size ≤ q ∧ q ≠ g) x (ccf d)) : kLn.own 86 w' w.heap.size (fun q => w.heap.size ≤ q) (.slice (some ⟨g, 0, none⟩) n n) ls := by
  have hl := gcells_len (cf := ccf) ccf_len ds
  refine ⟨ds, ⟨gcells_len ccf_len _, .inr ⟨g, n, _, by rw [h2, hn], hg, h1, by rw [h2, hn]; exact Nat.le_refl _, by simp only [maxLen]; omega, by rw [List.size_toArray, hl, h2, hn], by rw [show (gcells ccf ds).toArray.toList = gcells ccf ds from rfl, List.take_of_length_le (by rw [hl]; exact Nat.le_refl _)]⟩⟩, h2, fun i d x hd hx => ?_⟩
  exact kLn.mono (h3 i d x hd hx) fun q hq _ => ⟨hq.1, by simp [Value.ownBlock]; omega⟩
theorem put2_eq (ds : List (Cs kLn.sz)) (i : Nat) (d : Cs kLn.sz) (hd : ds[i]? = some d) (a b u v x y : Value) (hc : ccf d = [a, b, u, v]) (d' : Cs kLn.sz) (hc' : ccf d' = [a, b, x, y]) : ((gcells ccf ds).set (i * 4 + 2) x).set (i * 4 + 3) y = gcells ccf (ds.set i d') := by
  have hi := (List.getElem?_eq_some_iff.1 hd).1
  have hl : (gcells ccf ds).length = ds.length * 4 := gcells_len ccf_len ds
  have h0 : (gcells ccf ds)[i * 4]? = some a := by
    have := gcells_at (cf := ccf) ccf_len ds i d hd 0 (by rw [kLn_sz]; omega)
    rw [hc] at this
    exact this
  have h1 : (gcells ccf ds)[i * 4 + 1]? = some b := by
    have := gcells_at (cf := ccf) ccf_len ds i d hd 1 (by rw [kLn_sz]; omega)
    rw [hc] at this
    exact this
  have e0 : (gcells ccf ds).set (i * 4) a = gcells ccf ds := by
    obtain ⟨hq, he⟩ := List.getElem?_eq_some_iff.1 h0
    rw [← he]; exact List.set_getElem_self hq
  have e1 : (gcells ccf ds).set (i * 4 + 1) b = gcells ccf ds := by
    obtain ⟨hq, he⟩ := List.getElem?_eq_some_iff.1 h1
    rw [← he]; exact List.set_getElem_self hq
  have h4 := set4_list (gcells ccf ds) (i * 4) (by rw [hl]; omega) a b x y
  rw [e0, e1] at h4
  rw [h4, gcells_set ds i d' hi, hc']
  rfl
/-- What the round leaves. -/
theorem CnR_step {w wr W : World} {ls : List Ln} {ds : List (Cs kLn.sz)} {i : Nat} {x : Ln} (hx : Ext w wr) (hcur : Ext wr W) (hg : wr.heap[w.heap.size]? = some (.cells (gcells ccf ds).toArray 86 (0, 0))) (hdl : ds.length = ls.length) (hi : ls[i]? = some x)
    (hd : ∀ (j : Nat) (d : Cs kLn.sz) (x : Ln), ds[j]? = some d → ls[j]? = some x → (j < i → kLn.rep wr (fun q => w.heap.size ≤ q ∧ q ≠ w.heap.size) x (ccf d)) ∧ ∃ u v, ccf d = [.int .i64 x.fr, .int .i64 x.un, u, v])
    {A1 A2 : Option Addr} {n1 n2 c1 c2 : Nat} (h1 : n1 ≤ c1) (h2 : n2 ≤ c2) (r1 : kInt.own 3 W wr.heap.size (fun _ => False) (.slice A1 n1 c1) x.gaps) (r2 : kInt.own 3 W wr.heap.size (fun _ => False) (.slice A2 n2 c2) x.nts) :
    CnR w w.heap.size ls (.int .i64 ((i : Int) + 1)) ((W.setCell ⟨w.heap.size, i * 4 + 2, none⟩ (.slice A1 n1 c1)).setCell ⟨w.heap.size, i * 4 + 3, none⟩ (.slice A2 n2 c2)) := by
  have hgr : w.heap.size < wr.heap.size := lt_of_block hg
  have hil := (List.getElem?_eq_some_iff.1 hi).1
  obtain ⟨d, hdi⟩ : ∃ d, ds[i]? = some d := ⟨_, List.getElem?_eq_getElem (by omega)⟩
  obtain ⟨_, u, v, hdc⟩ := hd i d x hdi hi
  have hgW : W.heap[w.heap.size]? = some (.cells (gcells ccf ds).toArray 86 (0, 0)) := (hcur.block _ hgr).trans hg
  have hkeep : ∀ q, q ≠ w.heap.size → ((W.setCell ⟨w.heap.size, i * 4 + 2, none⟩ (.slice A1 n1 c1)).setCell ⟨w.heap.size, i * 4 + 3, none⟩ (.slice A2 n2 c2)).heap[q]? = W.heap[q]? := fun q hq => by
    rw [heap_setCell_other _ ⟨w.heap.size, i * 4 + 3, none⟩ q _ hq, heap_setCell_other _ ⟨w.heap.size, i * 4 + 2, none⟩ q _ hq]
  have hrow : ∀ {A : Option Addr} {n c : Nat} {xs : List Int}, kInt.own 3 W wr.heap.size (fun _ => False) (.slice A n c) xs → kInt.row ((W.setCell ⟨w.heap.size, i * 4 + 2, none⟩ (.slice A1 n1 c1)).setCell ⟨w.heap.size, i * 4 + 3, none⟩ (.slice A2 n2 c2)) (fun q => w.heap.size ≤ q ∧ q ≠ w.heap.size) A n xs := fun {A n c xs} h => by
    obtain ⟨A9, c9, e9, _, h9⟩ := own_rowN (P := fun _ => False) (Q := fun q => w.heap.size ≤ q ∧ q ≠ w.heap.size) h (fun q hq _ => hq.elim) (fun q hq _ => ⟨by omega, by omega⟩)
    have e1 : A = A9 := by injection e9
    have e2 : n = xs.length := by injection e9
    rw [e1, e2]
    exact Lay.row_keep h9 (by simp) fun q hq _ => hkeep q hq.2
  have hrep : kLn.rep ((W.setCell ⟨w.heap.size, i * 4 + 2, none⟩ (.slice A1 n1 c1)).setCell ⟨w.heap.size, i * 4 + 3, none⟩ (.slice A2 n2 c2)) (fun q => w.heap.size ≤ q ∧ q ≠ w.heap.size) x [.int .i64 x.fr, .int .i64 x.un, .slice A1 n1 c1, .slice A2 n2 c2] :=
    kLn_rep.2 ⟨A1, n1, c1, A2, n2, c2, rfl, h1, h2, hrow r1, hrow r2⟩
  obtain ⟨d', hd'⟩ : ∃ d' : Cs kLn.sz, ccf d' = [.int .i64 x.fr, .int .i64 x.un, .slice A1 n1 c1, .slice A2 n2 c2] := mkCs _ (kLn.len hrep) (kLn.one hrep)
  refine ⟨i + 1, ds.set i d', by omega, by simp, ((hx.trans hcur).setCell (p := ⟨w.heap.size, i * 4 + 2, none⟩) (Nat.le_refl _) _).setCell (p := ⟨w.heap.size, i * 4 + 3, none⟩) (Nat.le_refl _) _, ?_, by rw [List.length_set]; exact hdl, fun j dj y hdj hyj => ?_⟩
  · rw [heap_setCell_same _ w.heap.size (i * 4 + 3) _ 86 _ (heap_setCell_same _ w.heap.size (i * 4 + 2) _ 86 _ hgW), ← put2_eq ds i d hdi _ _ u v _ _ hdc d' hd']
    simp
  · rw [List.getElem?_set] at hdj
    by_cases hij : i = j
    · subst hij
      rw [if_pos rfl, if_pos (by omega)] at hdj
      injection hdj with hdj
      subst hdj
      rw [hi] at hyj
      injection hyj with hyj
      subst hyj
      rw [hd']
      exact ⟨fun _ => hrep, _, _, rfl⟩
    · rw [if_neg hij] at hdj
      obtain ⟨g1, g2⟩ := hd j dj y hdj hyj
      exact ⟨fun hlt => kLn.keep (g1 (by omega)) (Nat.le_trans hcur.lt (by simp)) fun q hq hl => (hkeep q hq.2).trans (hcur.block q hl), g2⟩
set_option maxHeartbeats 8000000 in
set_option maxRecDepth 100000 in
theorem lclone_any (P : Nat → Prop) (w : World) (A : Option Addr) (n c : Nat) (ls : List Ln) (h : kLn.row w P A n ls) (hn : n ≤ 100000) (hs : ∀ x ∈ ls, x.gaps.length ≤ 1000000 ∧ x.nts.length ≤ 1000000) :
    Calls Tryz.prog 189 #[.slice A n c] w (fun e w' => ∃ A' c', e = .returned (.slice A' n c') ∧ n ≤ c' ∧ kLn.own 86 w' w.heap.size (fun q => w.heap.size ≤ q) (.slice A' n c') ls ∧ Ext w w') := by
  have hl := Lay.row_len h
  rcases Nat.eq_zero_or_pos n with h0 | h0
  · have hx : ls = [] := List.eq_nil_of_length_eq_zero (by omega)
    subst h0 hx
    clear h hs hl
    go_enter Tryz.func189, Tryz.ntmps189
    go_wp2_with fail
    go_ret
    exact ⟨none, 0, rfl, Nat.le_refl _, Lay.own_nil _ _ _ _ _, Ext.refl _⟩
  have HL := Lib.hid hl
  have HR := Lib.hid h
  have HS := Lib.hid hs
  have h0' : ¬ (n : Int) = 0 := by omega
  have h0'' : ¬ n = 0 := by omega
  obtain ⟨ds0, q1, q2, q3, q4, q5⟩ := h
  obtain ⟨b0, off, rfl, hb0, hcs⟩ := q3.2 h0
  have hmk := fun W => run_mk (P := Tryz.prog) Tryz.underlying82 info86 (by omega) n (by omega) (n : Int) rfl W
  obtain ⟨Z, hZ⟩ : ∃ Z, madeCells (Value.agg #[.int .i64 0, .int .i64 0, .slice none 0 0, .slice none 0 0]).cells (n * 4) = Z := ⟨_, rfl⟩
  simp only [hZ] at hmk
  have hzl : Z.size = n * kLn.sz := by
    have h9 := congrArg List.length (made_flat #[.int .i64 0, .int .i64 0, .slice none 0 0, .slice none 0 0] (by decide) n)
    rw [List.length_flatten, List.map_replicate, List.sum_replicate_nat] at h9
    rw [← hZ]
    exact h9
  have hgl : (gcells ccf ds0).length = n * kLn.sz := by rw [gcells_len ccf_len, q2, ← q1]
  have hcpy := run_copy_sz (P := Tryz.prog) (w.alloc (.cells Z 86)) 82 82 3 86 w.heap.size 0 n n kLn.sz ⟨b0, off, none⟩ n c Z 86 (gcells ccf ds0) Tryz.underlying82 (by kernel_rfl) (heap_alloc_new w _) (by rw [hgl]; exact congrArg (· * kLn.sz) (Nat.min_self n).symm) (fun j u hu => by
    have hj : j < ds0.length * kLn.sz := by rw [← gcells_len (cf := ccf) ccf_len]; exact (List.getElem?_eq_some_iff.1 hu).1
    have hjs : j / kLn.sz < ds0.length := Nat.div_lt_of_lt_mul (by rw [Nat.mul_comm]; exact hj)
    have e : j = j / kLn.sz * kLn.sz + j % kLn.sz := by rw [Nat.mul_comm]; exact (Nat.div_add_mod j kLn.sz).symm
    have hmod : j % kLn.sz < kLn.sz := Nat.mod_lt _ (by rw [kLn_sz]; omega)
    rw [e, gcells_at ccf_len ds0 (j / kLn.sz) _ (List.getElem?_eq_getElem hjs) (j % kLn.sz) hmod] at hu
    have := hcs (j / kLn.sz) _ (List.getElem?_eq_getElem hjs) (j % kLn.sz) u hu
    rw [Nat.add_assoc, ← e] at this
    rw [Addr.add_lit]
    exact (((Ext.refl w).alloc (.cells Z 86)).cells.1 b0 _ hb0).trans this) (by rw [hgl]; omega) (gcells_one ccf_one ds0)
  obtain ⟨w2, hw2⟩ : ∃ w2, (w.alloc (.cells Z 86)).setRow w.heap.size (Z.toList.take 0 ++ gcells ccf ds0 ++ Z.toList.drop (0 + (gcells ccf ds0).length)).toArray = w2 := ⟨_, rfl⟩
  rw [hw2] at hcpy
  have HG2 := Lib.hid (show w2.heap[w.heap.size]? = some (.cells (gcells ccf ds0).toArray 86 (0, 0)) by
    rw [← hw2, setRow_heap (w.alloc (.cells Z 86)) w.heap.size Z _ 86 (0, 0) (heap_alloc_new w _), hgl, List.take_zero, List.nil_append, List.drop_of_length_le (by rw [Array.length_toList, hzl]; omega), List.append_nil])
  have HX2 := Lib.hid (show Ext w w2 by rw [← hw2]; exact below_setRow ((Ext.refl w).alloc _) (Nat.le_refl _) _)
  have HD0 := Lib.hid (show ∀ (j : Nat) (d : Cs kLn.sz) (x : Ln), ds0[j]? = some d → ls[j]? = some x → ∃ u v, ccf d = [.int .i64 x.fr, .int .i64 x.un, u, v] from fun j d x hd hx => by
    obtain ⟨A1, n1, c1, A2, n2, c2, e, _⟩ := kLn_rep.1 (q5 j d x hd hx)
    exact ⟨_, _, e⟩)
  have HDL := Lib.hid q2
  have HCPY := Lib.hid hcpy
  clear hcpy hs hl q5 q4 q3 hw2 hcs q2 q1 hgl hzl hZ
  go_enter Tryz.func189, Tryz.ntmps189
  go_wp2_with (first | (refine wpList_copy_run' (s := .tmp 11) (x := .tmp 12) HCPY.out rfl rfl rfl rfl ?_))
  go_loopw [4, 16] (fun _ s16 w' => CnR w w.heap.size ls s16 w') (fun _ s16 _ => toM n s16)
  case atStart => exact ⟨0, ds0, by omega, rfl, HX2.out, HG2.out, HDL.out, fun j d x hd hx => ⟨fun h => by omega, HD0.out j d x hd hx⟩⟩
  case round =>
    obtain ⟨i, ds, hi, rfl, hx, hg, hdl, hd⟩ := hrel
    have HXr := Lib.hid hx
    have HG := Lib.hid hg
    have HDS := Lib.hid hd
    clear hx hg hd
    by_cases hlt : i < n
    case neg =>
      obtain rfl : n = i := by have := HL.out; omega
      have hni : ¬ ((n : Int) < (n : Int)) := by omega
      go_wp2_with fail
      go_ret
      exact ⟨some ⟨w.heap.size, 0, none⟩, n, rfl, Nat.le_refl _, CnR_own HL.out (by omega) (Nat.le_refl _) HG.out hdl fun j d x hdj hxj => (HDS.out j d x hdj hxj).1 (by have := HL.out; have := (List.getElem?_eq_some_iff.1 hxj).1; omega), HXr.out⟩
    have hI : (i : Int) < (n : Int) := by omega
    obtain ⟨x, hx⟩ : ∃ x, ls[i]? = some x := ⟨_, List.getElem?_eq_getElem (by have := HL.out; omega)⟩
    have hsx := HS.out x (List.mem_of_getElem? hx)
    obtain ⟨b1, o1, cs, e9, hb1, _, hrep, hcell⟩ := Lay.row_at (Lay.row_ext HR.out HXr.out) hx
    injection e9 with e9
    injection e9 with e9 e10
    subst e9 e10
    obtain ⟨A1, n1, c1, A2, n2, c2, rfl, h1, h2, hr1, hr2⟩ := kLn_rep.1 hrep
    have k2 := hcell 2 _ rfl
    have k3 := hcell 3 _ rfl
    rw [kLn_sz] at k2 k3
    have HC1 := Lib.hid (fun X (hX : Ext wr X) => clone_int P (fun _ => False) X A1 n1 c1 x.gaps (Lay.row_ext hr1 hX) (by have := Lay.row_len hr1; omega))
    have HC2 := Lib.hid (fun X (hX : Ext wr X) => clone_int P (fun _ => False) X A2 n2 c2 x.nts (Lay.row_ext hr2 hX) (by have := Lay.row_len hr2; omega))
    have hgr : w.heap.size < wr.heap.size := lt_of_block HG.out
    have hgl : (gcells ccf ds).length = ds.length * 4 := gcells_len ccf_len ds
    have HFZ := Lib.hid (show ∀ X, Ext wr X → (∃ u, X.cell? ⟨w.heap.size, i * 4 + 2, none⟩ = some u) ∧ (∃ u, X.cell? ⟨w.heap.size, i * 4 + 3, none⟩ = some u) ∧ X.frozen? ⟨w.heap.size, i * 4 + 2, none⟩ = false ∧ X.frozen? ⟨w.heap.size, i * 4 + 3, none⟩ = false from fun X hX => by
      have h9 := (hX.block _ hgr).trans HG.out
      exact ⟨⟨_, cell_of h9 (Array.getElem?_eq_getElem (by rw [List.size_toArray, hgl, hdl]; have := HL.out; omega))⟩, ⟨_, cell_of h9 (Array.getElem?_eq_getElem (by rw [List.size_toArray, hgl, hdl]; have := HL.out; omega))⟩, frozen_of h9 _, frozen_of h9 _⟩)
    have HQ := Lib.hid (fun X (hX : Ext wr X) => (show X.cell? ⟨b0, off + i * 4 + 2, none⟩ = some (.slice A1 n1 c1) ∧ X.cell? ⟨b0, off + i * 4 + 3, none⟩ = some (.slice A2 n2 c2) from ⟨(hX.cells.1 _ _ hb1).trans k2, (hX.cells.1 _ _ hb1).trans k3⟩))
    have HQ1 := Lib.hid (fun X (hX : Ext wr X) k u => (show (X.setCell ⟨w.heap.size, k, none⟩ u).cell? ⟨b0, off + i * 4 + 2, none⟩ = some (.slice A1 n1 c1) ∧ (X.setCell ⟨w.heap.size, k, none⟩ u).cell? ⟨b0, off + i * 4 + 3, none⟩ = some (.slice A2 n2 c2) from
      ⟨(World.cell?_setCell_other _ _ _ _ (by intro e; injection e with e; omega)).trans (HQ.out X hX).1, (World.cell?_setCell_other _ _ _ _ (by intro e; injection e with e; omega)).trans (HQ.out X hX).2⟩))
    have HQ2 := Lib.hid (fun X (hX : Ext wr X) k u k2 u2 => (show ((X.setCell ⟨w.heap.size, k, none⟩ u).setCell ⟨w.heap.size, k2, none⟩ u2).cell? ⟨b0, off + i * 4 + 2, none⟩ = some (.slice A1 n1 c1) ∧ ((X.setCell ⟨w.heap.size, k, none⟩ u).setCell ⟨w.heap.size, k2, none⟩ u2).cell? ⟨b0, off + i * 4 + 3, none⟩ = some (.slice A2 n2 c2) from
      ⟨(World.cell?_setCell_other _ _ _ _ (by intro e; injection e with e; omega)).trans (HQ1.out X hX k u).1, (World.cell?_setCell_other _ _ _ _ (by intro e; injection e with e; omega)).trans (HQ1.out X hX k u).2⟩))
    have hcur : Ext wr wr.drew := (Ext.refl _).drew
    have HXI := Lib.hid hx
    have hbg : ¬ b0 = w.heap.size := by omega
    clear hrep hcell hr1 hr2 hx hgl
    go_wp2_with fail
    go_region_held3 (fun W => W.cell? ⟨b0, off + i * 4 + 2, none⟩ = some (.slice A1 n1 c1) ∧ W.cell? ⟨b0, off + i * 4 + 3, none⟩ = some (.slice A2 n2 c2)) (first | exact HQ.out _ hcur | exact HQ1.out _ hcur _ _ | exact HQ2.out _ hcur _ _ _ _) (first
      | (go_at_call_of 128 (Value.slice A1 n1 c1); refine (HC1.out _ hcur).mono ?_; rintro e wG ⟨AG, cG, rfl, hG, hoG, hxG⟩; have hcur := hcur.trans hxG; obtain ⟨⟨u2, f0⟩, ⟨u3, f1⟩, f2, f3⟩ := HFZ.out _ hcur; have HOG := Lib.hid hoG; have HXG := Lib.hid hxG; clear hoG hxG)
      | (go_at_call_of 128 (Value.slice A2 n2 c2); refine (HC2.out _ hcur).mono ?_; rintro e wN ⟨AN, cN, rfl, hN, hoN, hxN⟩; have hcur := hcur.trans hxN; obtain ⟨⟨u2, f0⟩, ⟨u3, f1⟩, f2, f3⟩ := HFZ.out _ hcur; have HON := Lib.hid hoN; have HXN := Lib.hid hxN; clear hoN hxN))
    all_goals
      go_wp2_with fail
      go_roundw
      case rel =>
        refine CnR_step HXr.out hcur HG.out hdl HXI.out HDS.out hG hN ?_ ?_
        · first | exact own_base (Lay.own_ext HOG.out HXN.out) (Nat.le_refl _) | exact own_base HOG.out HXN.out.lt
        · first | exact own_base HON.out HXG.out.lt | exact own_base (Lay.own_ext HON.out HXG.out) (Nat.le_refl _)
      case measure => simp only [toM]; omega
end Go.Proofs.YtdbnddmncbjobaaGreatDoor

/- page.Set's closures: walked. -/
namespace Go.Proofs.YtdbnddmncbjobaaGreatDoor
open Go Go.RowKit

set_option maxHeartbeats 4000000 in
set_option maxRecDepth 100000 in
theorem room_any (w : World) (b5 b11 b12 : Nat) (h l s : Int) (h5 : w.cell? ⟨b5, 0, none⟩ = some (.int .i64 h)) (h11 : w.cell? ⟨b11, 0, none⟩ = some (.int .i64 l)) (h12 : w.cell? ⟨b12, 0, none⟩ = some (.int .i64 s)) (hh : 0 ≤ h ∧ h ≤ 100) (hl : 0 ≤ l ∧ l ≤ 10000000) (hs : 0 ≤ s ∧ s ≤ 10000000) :
    Calls Tryz.prog 187 #[.pointer (some ⟨b5, 0, none⟩), .pointer (some ⟨b11, 0, none⟩), .pointer (some ⟨b12, 0, none⟩)] w (fun e w' => e = .returned (.int .i64 (roomP h l s)) ∧ w' = w) := by
  obtain ⟨mn, hmn⟩ : ∃ mn, min s 1 = mn := ⟨_, rfl⟩
  have hm : 0 ≤ mn ∧ mn ≤ 1 := by omega
  have HR := Lib.hid (show roomP h l s = h - l - s - mn by unfold roomP; rw [hmn])
  clear hm
  go_enter Tryz.func187, Tryz.ntmps187
  go_wp2_with fail
  go_ret
  exact ⟨ret_i HR.out.symm, rfl⟩
theorem fits_end (w : World) (b3 b10 b11 b12 b13 : Nat) (A : Option Addr) (n c : Nat) (h11 : w.cell? ⟨b11, 0, none⟩ = some (.int .i64 n)) (h3 : w.cell? ⟨b3, 0, none⟩ = some (.slice A n c)) :
    Calls Tryz.prog 188 #[.pointer (some ⟨b11, 0, none⟩), .pointer (some ⟨b3, 0, none⟩), .pointer (some ⟨b13, 0, none⟩), .pointer (some ⟨b12, 0, none⟩), .pointer (some ⟨b10, 0, none⟩)] w (fun e w' => e = .returned (.bool false) ∧ ∃ k, w' = w.drewN k) := by
  go_enter Tryz.func188, Tryz.ntmps188
  go_wp2_with fail
  go_ret
  exact ⟨rfl, 0, rfl⟩
set_option maxHeartbeats 4000000 in
set_option maxRecDepth 100000 in
theorem fits_at (w : World) (b3 b5 b10 b11 b12 b13 b off : Nat) (n c l nq cq n2 c2 : Nat) (Aq A2 : Option Addr) (h s : Int) (q : List Ln) (x : Ln) (hl : l < n) (hn : n ≤ 1000000)
    (h11 : w.cell? ⟨b11, 0, none⟩ = some (.int .i64 l)) (h3 : w.cell? ⟨b3, 0, none⟩ = some (.slice (some ⟨b, off, none⟩) n c)) (h13 : w.cell? ⟨b13, 0, none⟩ = some (.func (.func 187) #[] #[.pointer (some ⟨b5, 0, none⟩), .pointer (some ⟨b11, 0, none⟩), .pointer (some ⟨b12, 0, none⟩)]))
    (h12 : w.cell? ⟨b12, 0, none⟩ = some (.int .i64 s)) (h10 : w.cell? ⟨b10, 0, none⟩ = some (.slice Aq nq cq)) (h5 : w.cell? ⟨b5, 0, none⟩ = some (.int .i64 h)) (hx : w.cell? ⟨b, off + l * 4 + 3, none⟩ = some (.slice A2 n2 c2)) (hx2 : n2 = x.nts.length) (hq : nq = q.length) (hq2 : nq ≤ 1000000) (hh : 0 ≤ h ∧ h ≤ 100) (hs : 0 ≤ s ∧ s ≤ 1000000) :
    Calls Tryz.prog 188 #[.pointer (some ⟨b11, 0, none⟩), .pointer (some ⟨b3, 0, none⟩), .pointer (some ⟨b13, 0, none⟩), .pointer (some ⟨b12, 0, none⟩), .pointer (some ⟨b10, 0, none⟩)] w (fun e w' => e = .returned (.bool (fitsP h q x l s)) ∧ ∃ k, w' = w.drewN k) := by
  have HRM := Lib.hid (fun k => room_any (w.drewN k) b5 b11 b12 h l s (by simpa using h5) (by simpa using h11) (by simpa using h12) hh (by omega) (by omega))
  have hrb : -20000000 ≤ roomP h l s ∧ roomP h l s ≤ 200 := by unfold roomP; omega
  obtain ⟨r, hr⟩ : ∃ r, roomP h l s = r := ⟨_, rfl⟩
  obtain ⟨fb, hfb⟩ : ∃ fb, fitsP h q x l s = fb := ⟨_, rfl⟩
  rw [hfb]
  have HF := Lib.hid hfb
  simp only [hr] at HRM hrb
  have HR := Lib.hid hr
  have hl2 : ¬ ((l : Int) = (n : Int)) := by omega
  have hl3 : (l : Int) < (n : Int) := by omega
  have hl4 : ((l : Int) == (n : Int)) = false := by rw [beq_eq_false_iff_ne]; exact hl2
  obtain ⟨hrb1, hrb2⟩ := hrb
  have HQ := Lib.hid hq
  have HX2 := Lib.hid hx2
  clear hr hfb hq hx2
  by_cases hn0 : n2 = 0
  · have HE := Lib.hid (show fb = decide (0 < r) by
      have h9 := HF.out
      unfold fitsP at h9
      rw [if_pos (List.eq_nil_of_length_eq_zero (by have := HX2.out; omega)), HR.out] at h9
      exact h9.symm)
    subst hn0
    go_enter Tryz.func188, Tryz.ntmps188
    go_wp2_with (first | (go_at_call 187; refine (HRM.out 0).mono ?_; rintro e w1 ⟨rfl, rfl⟩))
    go_ret
    exact ⟨by rw [HE.out]; rfl, 0, rfl⟩
  · have HE := Lib.hid (show fb = decide (s = q.length ∧ 3 - min s 1 ≤ r) by
      have h9 := HF.out
      unfold fitsP at h9
      rw [if_neg (fun e => by rw [e] at HX2; exact hn0 HX2.out), HR.out] at h9
      exact h9.symm)
    have hn1 : ¬ ((n2 : Int) = 0) := by omega
    by_cases hsq : s = (nq : Int)
    · subst hsq
      obtain ⟨mn, hmn⟩ : ∃ mn, min (nq : Int) 1 = mn := ⟨_, rfl⟩
      have hm : 0 ≤ mn ∧ mn ≤ 1 := by omega
      obtain ⟨hm1, hm2⟩ := hm
      have hw3 : IntKind.i64.wrap (3 - mn) = 3 - mn := IntWalk.i64_in _ (by omega)
      have HE2 := Lib.hid (show fb = decide (3 - mn ≤ r) by
        rw [HE.out, hmn]
        exact decide_eq_decide.2 ⟨fun h => h.2, fun h => ⟨by rw [HQ.out], h⟩⟩)
      go_enter Tryz.func188, Tryz.ntmps188
      go_wp2_with fail
      go_quiet (first | (go_at_call 187; refine Calls.quiet_of_same (HRM.out _)))
      go_wp2_with fail
      go_ret
      exact ⟨by rw [HE2.out]; rfl, _, rfl⟩
    · have HE2 := Lib.hid (show fb = false by
        rw [HE.out]
        exact decide_eq_false fun h => hsq (by rw [h.1, HQ.out]))
      have hsq2 : (s == (nq : Int)) = false := by rw [beq_eq_false_iff_ne]; exact hsq
      go_enter Tryz.func188, Tryz.ntmps188
      go_wp2_with fail
      go_quiet (first | (go_at_call 187; refine Calls.quiet_of_same (HRM.out _)))
      go_wp2_with fail
      go_ret
      exact ⟨by rw [HE2.out]; rfl, _, rfl⟩
end Go.Proofs.YtdbnddmncbjobaaGreatDoor

/- A row of the call's own from some element on: a queue, off whose front elements are taken. -/
namespace Go.Proofs.YtdbnddmncbjobaaGreatDoor
open Go Go.RowKit

variable {β : Type}
/-- The cells xs lie from a place of a block of its own on. -/
def rowQ (w : World) (base : Nat) (e : TypeId) (size : Nat) (v : Value) (n : Nat) (xs : List Value) : Prop :=
  xs.length = n * size ∧
  ((v = .slice none 0 0 ∧ n = 0) ∨
   ∃ g o cap cur, v = .slice (some ⟨g, o, none⟩) n cap ∧ base ≤ g ∧ w.heap[g]? = some (.cells cur e (0, 0)) ∧ n ≤ cap ∧ cap ≤ maxLen ∧ o + cap * size ≤ cur.size ∧ (cur.toList.drop o).take (n * size) = xs)
theorem rowQ_of {w : World} {base : Nat} {e : TypeId} {size : Nat} {v : Value} {n : Nat} {xs : List Value} (h : w.ownsRow base e size v n xs) : rowQ w base e size v n xs := by
  refine ⟨h.1, ?_⟩
  rcases h.2 with h | ⟨g, cap, cur, h1, h2, h3, h4, h5, h6, h7⟩
  · exact .inl h
  · exact .inr ⟨g, 0, cap, cur, h1, h2, h3, h4, h5, by omega, by simpa using h7⟩
theorem rowQ_cell {w : World} {base : Nat} {e : TypeId} {size g o n cap : Nat} {xs : List Value} (h : rowQ w base e size (.slice (some ⟨g, o, none⟩) n cap) n xs) : ∀ j u, xs[j]? = some u → w.cell? ⟨g, o + j, none⟩ = some u := by
  intro j u hu
  rcases h.2 with ⟨h, _⟩ | ⟨g', o', cap', cur, h1, h2, h3, h4, h5, h6, h7⟩
  · cases h
  · injection h1 with h1 _ _
    injection h1 with h1
    injection h1 with h1 h8 _
    subst h1 h8
    rw [← h7, List.getElem?_take] at hu
    split at hu
    · rw [List.getElem?_drop] at hu
      unfold World.cell?
      simp only [h3]
      simpa using hu
    · cases hu
theorem rowQ_append {P : Program} {w : World} {base : Nat} {t e : TypeId} {z : Value} {size bytes : Nat} (ht : P.underlying t = some (.slice e)) (hinfo : (P.info? e).map (fun i => (i.zero, i.size, i.bytes)) = some (some z, size, bytes))
    (hzs : z.cells.size = size) (hsz : 0 < size) {v : Value} {n : Nat} {xs : List Value} (hown : rowQ w base e size v n xs) {A : Option Addr} {m c : Nat} {news : List Value} (hl : news.length = m * size)
    (hA : 0 < m → ∃ b off, A = some ⟨b, off, none⟩ ∧ ∀ j u, news[j]? = some u → w.cell? ⟨b, off + j, none⟩ = some u) (h1 : ∀ u ∈ news, u.oneCell' = true)
    (h63 : n + m ≤ maxLen) (hbytes : (n + m) * bytes ≤ 140737488355328) (hbase : base ≤ w.heap.size) :
    ∃ A' c' w', (Builtin.append_ #[t, t] t #[v, .slice A m c]).run P w = .ok (.slice A' (n + m) c') w' ∧ rowQ w' base e size (.slice A' (n + m) c') (n + m) (xs ++ news) ∧ (∀ B, B ≤ base → Below B w w') ∧
      (∀ k, k < w.heap.size → v.ownBlock ≠ some k → w'.heap[k]? = w.heap[k]?) ∧ w.heap.size ≤ w'.heap.size ∧ (∀ j, (Value.slice A' (n + m) c').ownBlock = some j → v.ownBlock = some j ∨ w.heap.size ≤ j) := by
  by_cases h0 : m = 0
  · subst h0
    obtain rfl : news = [] := List.eq_nil_of_length_eq_zero (by simpa using hl)
    obtain ⟨i, hi, hz, hs, hb⟩ := info_parts hinfo
    obtain ⟨A', c', rfl, hr⟩ : ∃ A' c', v = .slice A' n c' ∧ (Builtin.append_ #[t, t] t #[v, .slice A 0 c]).run P w = .ok v w := by
      rcases hown.2 with ⟨rfl, rfl⟩ | ⟨g, o, cap, cur, rfl, _, _, hnc, _⟩
      · refine ⟨none, 0, rfl, ?_⟩
        rcases A with _ | ad
        · simp [Builtin.append_, run_underlying ht, sizeOf, typeInfo, hi, Builtin.lenOf, Builtin.firstCells]
        · have hl : (loadCells ad 0).run P w = .ok #[] w := by simpa using run_loadCells_list (P := P) w ad [] (by simp)
          simp [Builtin.append_, run_underlying ht, sizeOf, typeInfo, hi, Builtin.lenOf, Builtin.firstCells, hl]
      · refine ⟨some ⟨g, o, none⟩, cap, rfl, ?_⟩
        rcases A with _ | ad
        · simp [Builtin.append_, run_underlying ht, sizeOf, typeInfo, hi, Builtin.lenOf, Builtin.firstCells, hnc, storeCells]
        · have hl : (loadCells ad 0).run P w = .ok #[] w := by simpa using run_loadCells_list (P := P) w ad [] (by simp)
          simp [Builtin.append_, run_underlying ht, sizeOf, typeInfo, hi, Builtin.lenOf, Builtin.firstCells, hnc, storeCells, hl]
    exact ⟨A', c', w, hr, by simpa using hown, fun B _ => Below.refl B w, fun _ _ _ => rfl, Nat.le_refl _, fun j hj => .inl hj⟩
  obtain ⟨b, off, rfl, hcell⟩ := hA (by omega)
  rcases hown.2 with ⟨rfl, rfl⟩ | ⟨g, o, cap, cur, rfl, hbg, hg, hnc, hcm, hcs, htake⟩
  · obtain rfl : xs = [] := List.eq_nil_of_length_eq_zero (by simpa using hown.1)
    obtain ⟨A', c', w', r1, r2, r3, r4, r5⟩ := run_append_src5 (P := P) (t := t) ht hinfo hzs hsz (World.ownsRow_nil w base e size) (A := some ⟨b, off, none⟩) (m := m) (c := c) (news := news) hl (fun _ => ⟨b, off, rfl, hcell⟩) h1 (by simpa using h63) (by simpa using hbytes) hbase
    refine ⟨A', c', w', r1, rowQ_of r2, r3, fun k hk hne => r4 k hk (fun a => by simp), (r3 base (Nat.le_refl _)).size, fun j hj => ?_⟩
    rcases r5 with r5 | r5
    · exact .inl (r5.symm.trans hj)
    · rw [r5] at hj; injection hj with hj; exact .inr (by omega)
  · obtain ⟨i, hi, hz, hs, hb⟩ := info_parts hinfo
    by_cases hroom : n + m ≤ cap
    · subst hs
      have hfit : o + n * i.size + news.length ≤ cur.size := by
        have : (n + m) * i.size ≤ cap * i.size := Nat.mul_le_mul_right _ hroom
        rw [Nat.add_mul] at this
        omega
      have hlo := hown.1
      have hf := run_firstCells_some (P := P) w i.size m ⟨b, off, none⟩ m c news hl (fun j u hu => by rw [Addr.add_lit]; exact hcell j u hu)
      have hst := run_storeCells_at P g (o + n * i.size) e news 0 cur w hg (by simpa using hfit) h1
      simp only [Nat.add_zero] at hst
      have hr : (Builtin.append_ #[t, t] t #[.slice (some ⟨g, o, none⟩) n cap, .slice (some ⟨b, off, none⟩) m c]).run P w = .ok (.slice (some ⟨g, o, none⟩) (n + m) cap) (w.setRow g (cur.toList.take (o + n * i.size) ++ news ++ cur.toList.drop (o + n * i.size + news.length)).toArray) := by
        simp [Builtin.append_, run_underlying ht, sizeOf, typeInfo, hi, Builtin.lenOf, hroom, hf, Addr.add_lit, hst]
      refine ⟨_, _, _, hr, ⟨by rw [List.length_append, hlo, hl, Nat.add_mul], .inr ⟨g, o, cap, _, rfl, hbg, setRow_heap w g cur _ e _ hg, hroom, hcm, ?_, ?_⟩⟩, fun B hB => ⟨rfl, rfl, rfl, by simp [World.setRow], fun k hk => setRow_other w g k _ (by omega)⟩, fun k hk hne => setRow_other w g k _ (fun e => hne (by simp [Value.ownBlock, e])), by simp [World.setRow], fun j hj => .inl hj⟩
      · simp only [List.size_toArray, List.length_append, List.length_take, List.length_drop, Array.length_toList]
        omega
      · have h2 : (cur.toList.take (o + n * i.size)).drop o = xs := by rw [List.drop_take, show o + n * i.size - o = n * i.size by omega]; exact htake
        have h3 : (cur.toList.take (o + n * i.size)).length = o + n * i.size := by rw [List.length_take, Array.length_toList]; omega
        rw [List.append_assoc, List.drop_append, h2, h3, show o - (o + n * i.size) = 0 by omega, List.drop_zero, ← List.append_assoc, List.take_append, List.take_of_length_le (by rw [List.length_append, hlo, hl, Nat.add_mul]; omega),
          List.length_append, hlo, hl, Nat.add_mul, Nat.sub_self, List.take_zero, List.append_nil]
    · obtain ⟨v', w', r1, r2, r3⟩ := run_append_arg_grows (P := P) w t t e i z size bytes ht hi hz hs hb hzs hsz ⟨g, o, none⟩ n cap xs hown.1 (fun j u hu => by rw [Addr.add_lit]; exact rowQ_cell hown j u hu) ⟨b, off, none⟩ m c news hl (fun j u hu => by rw [Addr.add_lit]; exact hcell j u hu) (by omega) h63 hbytes
      obtain ⟨A', c', rfl, _, _⟩ := own_form r2
      refine ⟨A', c', w', r1, ?_, fun B hB => ?_, fun k hk hne => r3.block k hk (by simp), r3.size, fun j hj => .inr (r2.lt j hj).1⟩
      · have := rowQ_of r2
        refine ⟨this.1, ?_⟩
        rcases this.2 with h | ⟨g', o', cap', cur', h1, h2, h3⟩
        · exact .inl h
        · exact .inr ⟨g', o', cap', cur', h1, Nat.le_trans hbase h2, h3⟩
      · exact (Below.refl B w).grown r3 (Nat.le_trans hB hbase) (fun k hk => by cases hk)
/-- A queue: the slice v holds the elements xs in a row of the call's own, from some place on. -/
def Lay.que (k : Lay β) (e : TypeId) (W : World) (base : Nat) (P : Nat → Prop) (v : Value) (xs : List β) : Prop :=
  ∃ ds : List (Cs k.sz), rowQ W base e k.sz v ds.length (gcells ccf ds) ∧ ds.length = xs.length ∧ ∀ (i : Nat) (d : Cs k.sz) (x : β), ds[i]? = some d → xs[i]? = some x → k.rep W (fun j => P j ∧ v.ownBlock ≠ some j) x d.1
theorem Lay.que_nil (k : Lay β) (e : TypeId) (W : World) (base : Nat) (P : Nat → Prop) : k.que e W base P (.slice none 0 0) [] := ⟨[], ⟨by simp [gcells], .inl ⟨rfl, rfl⟩⟩, rfl, fun i d x hd => by simp at hd⟩
theorem rowQ_lt {w : World} {base : Nat} {e : TypeId} {size : Nat} {v : Value} {n : Nat} {xs : List Value} (h : rowQ w base e size v n xs) : ∀ j, v.ownBlock = some j → base ≤ j ∧ j < w.heap.size := by
  intro j hj
  rcases h.2 with ⟨rfl, _⟩ | ⟨g, o, cap, cur, rfl, h1, h2, _⟩
  · cases hj
  · injection hj with hj
    subst hj
    exact ⟨h1, lt_of_block h2⟩
theorem Lay.que_lt {k : Lay β} {e : TypeId} {W : World} {base : Nat} {P : Nat → Prop} {v : Value} {xs : List β} (h : k.que e W base P v xs) : ∀ j, v.ownBlock = some j → base ≤ j ∧ j < W.heap.size := by
  obtain ⟨ds, h1, _⟩ := h
  exact rowQ_lt h1
theorem Lay.que_keep {k : Lay β} {e : TypeId} {W W' : World} {base : Nat} {P : Nat → Prop} {v : Value} {xs : List β} (h : k.que e W base P v xs) (hs : W.heap.size ≤ W'.heap.size) (hk : ∀ j, (P j ∨ v.ownBlock = some j) → j < W.heap.size → W'.heap[j]? = W.heap[j]?) : k.que e W' base P v xs := by
  have hlt := Lay.que_lt h
  obtain ⟨ds, h1, h2, h3⟩ := h
  refine ⟨ds, ⟨h1.1, ?_⟩, h2, fun i d x hd hx => k.keep (h3 i d x hd hx) hs fun j hj hl => hk j (.inl hj.1) hl⟩
  rcases h1.2 with h | ⟨g, o, cap, cur, rfl, h4, h5, h6⟩
  · exact .inl h
  · exact .inr ⟨g, o, cap, cur, rfl, h4, by rw [hk g (.inr rfl) (lt_of_block h5)]; exact h5, h6⟩
theorem Lay.que_ext {k : Lay β} {e : TypeId} {W W' : World} {base : Nat} {P : Nat → Prop} {v : Value} {xs : List β} (h : k.que e W base P v xs) (hx : Ext W W') : k.que e W' base P v xs := Lay.que_keep h hx.lt fun j _ hj => hx.block j hj
theorem Lay.que_len {k : Lay β} {e : TypeId} {W : World} {base : Nat} {P : Nat → Prop} {v : Value} {xs : List β} (h : k.que e W base P v xs) : ∃ A c, v = .slice A xs.length c ∧ xs.length ≤ c ∧ c ≤ maxLen := by
  obtain ⟨ds, h1, h2, _⟩ := h
  rw [h2] at h1
  rcases h1.2 with ⟨rfl, h⟩ | ⟨g, o, cap, cur, rfl, _, _, h5, h6, _⟩
  · exact ⟨none, 0, by rw [h], by omega, by simp [maxLen]⟩
  · exact ⟨_, cap, rfl, h5, h6⟩
/-- A queue as a row. -/
theorem Lay.que_row {k : Lay β} {e : TypeId} {W : World} {base : Nat} {P : Nat → Prop} {A : Option Addr} {n c : Nat} {xs : List β} (h : k.que e W base P (.slice A n c) xs) : k.row W (fun j => P j ∨ (Value.slice A n c).ownBlock = some j) A n xs := by
  have hlt := Lay.que_lt h
  obtain ⟨ds, h1, h2, h3⟩ := h
  have hn : n = ds.length := by
    rcases h1.2 with ⟨h4, h5⟩ | ⟨g, o, cap, cur, h4, _⟩
    · injection h4 with _ h6 _; omega
    · injection h4 with _ h6 _
  subst hn
  refine ⟨ds, h2, h2, ⟨rfl, fun h0 => ?_⟩, fun x hx => ?_, fun i d x hd hx => k.mono (h3 i d x hd hx) fun j hj _ => .inl hj.1⟩
  · rcases h1.2 with ⟨h4, h5⟩ | ⟨g, o, cap, cur, h4, h6, h7, _⟩
    · omega
    · injection h4 with h4 _ h8
      subst h4 h8
      refine ⟨g, o, rfl, lt_of_block h7, fun i d hi j u hu => ?_⟩
      have hj : j < k.sz := by rw [← ccf_len d]; exact (List.getElem?_eq_some_iff.1 hu).1
      have := rowQ_cell h1 (i * k.sz + j) u ((gcells_at ccf_len ds i d hi j hj).trans hu)
      rw [Nat.add_assoc]; exact this
  · subst hx
    exact ⟨.inr rfl, (hlt x.block rfl).2⟩
/-- append of a row that lies in memory. -/
theorem Lay.que_append {k : Lay β} {Pr : Program} {t e : TypeId} {z : Value} {bytes : Nat} (ht : Pr.underlying t = some (.slice e)) (hinfo : (Pr.info? e).map (fun i => (i.zero, i.size, i.bytes)) = some (some z, k.sz, bytes)) (hzs : z.cells.size = k.sz) (hsz : 0 < k.sz) (hby : bytes ≤ 1000)
    {W : World} {base : Nat} {R : Nat → Prop} {v : Value} {xs : List β} (h : k.que e W base R v xs) {A : Option Addr} {m : Nat} {ys : List β} (hr : k.row W (fun j => R j ∧ v.ownBlock ≠ some j) A m ys) (c : Nat) (hm : xs.length + m ≤ 100000000) (hbase : base ≤ W.heap.size) :
    ∃ A' c' w', (Builtin.append_ #[t, t] t #[v, .slice A m c]).run Pr W = .ok (.slice A' (xs.length + m) c') w' ∧ k.que e w' base R (.slice A' (xs.length + m) c') (xs ++ ys) ∧ (∀ B, B ≤ base → Below B W w') ∧
      (∀ j, j < W.heap.size → v.ownBlock ≠ some j → w'.heap[j]? = W.heap[j]?) ∧ W.heap.size ≤ w'.heap.size ∧ (∀ j, (Value.slice A' (xs.length + m) c').ownBlock = some j → v.ownBlock = some j ∨ W.heap.size ≤ j) := by
  obtain ⟨ds, h1, h2, h3⟩ := h
  obtain ⟨ds', e1, hl, ⟨e2, hs⟩, hb, hrep⟩ := hr
  subst e2
  obtain ⟨A', c', w', r1, r2, r3, r4, r5, r6⟩ := rowQ_append (P := Pr) (t := t) ht hinfo hzs hsz h1 (A := A) (m := ds'.length) (c := c) (news := gcells ccf ds') (gcells_len ccf_len ds')
    (fun h0 => by
      obtain ⟨b, off, rfl, _, hc⟩ := hs h0
      refine ⟨b, off, rfl, fun j u hu => ?_⟩
      have hj : j < ds'.length * k.sz := by rw [← gcells_len (cf := ccf) ccf_len]; exact (List.getElem?_eq_some_iff.1 hu).1
      have hjs : j / k.sz < ds'.length := Nat.div_lt_of_lt_mul (by rw [Nat.mul_comm]; exact hj)
      have e : j = j / k.sz * k.sz + j % k.sz := by rw [Nat.mul_comm]; exact (Nat.div_add_mod j k.sz).symm
      have hmod : j % k.sz < k.sz := Nat.mod_lt _ hsz
      rw [e, gcells_at ccf_len ds' (j / k.sz) _ (List.getElem?_eq_getElem hjs) (j % k.sz) hmod] at hu
      have := hc (j / k.sz) _ (List.getElem?_eq_getElem hjs) (j % k.sz) u hu
      rw [Nat.add_assoc, ← e] at this
      exact this)
    (gcells_one ccf_one ds') (by simp only [maxLen]; omega) (Nat.le_trans (Nat.mul_le_mul (by omega) hby) (by omega : 100000000 * 1000 ≤ _)) hbase
  rw [h2] at r1 r2 r6
  refine ⟨A', c', w', r1, ⟨ds ++ ds', ?_, by simp [h2, hl], fun i d x hd hx => ?_⟩, r3, r4, r5, r6⟩
  · rw [List.length_append, h2, gcells_append]; exact r2
  · have hall : k.rep W (fun j => R j ∧ v.ownBlock ≠ some j) x d.1 := by
      rw [List.getElem?_append] at hd hx
      rw [h2] at hd
      split at hd
      · next hi => rw [if_pos hi] at hx; exact h3 i d x hd hx
      · next hi => rw [if_neg hi] at hx; exact hrep _ d x hd hx
    have h4 := k.mono (Q := fun j => R j ∧ v.ownBlock ≠ some j ∧ j < W.heap.size) hall fun j hj hl => ⟨hj.1, hj.2, hl⟩
    exact k.mono (k.keep h4 r5 fun j hj hl => r4 j hl hj.2.1) fun j hj _ => ⟨hj.1, fun e => by
      rcases r6 j e with h7 | h7
      · exact hj.2.1 h7
      · have := hj.2.2; omega⟩
/-- The front is taken off a queue. -/
theorem Lay.que_drop {k : Lay β} {e : TypeId} {W : World} {base : Nat} {R : Nat → Prop} {g o n c : Nat} {xs : List β} (h : k.que e W base R (.slice (some ⟨g, o, none⟩) n c) xs) (i : Nat) (hi : i ≤ n) : k.que e W base R (.slice (some ⟨g, o + i * k.sz, none⟩) (n - i) (c - i)) (xs.drop i) := by
  obtain ⟨ds, h1, h2, h3⟩ := h
  rcases h1.2 with ⟨h4, _⟩ | ⟨g', o', cap, cur, h4, h5, h6, h7, h8, h9, h10⟩
  · cases h4
  · injection h4 with h4 hn hc
    injection h4 with h4
    injection h4 with hg ho _
    subst hg ho hn hc
    have hi' : i * k.sz ≤ c * k.sz := Nat.mul_le_mul_right _ (by omega)
    refine ⟨ds.drop i, ⟨gcells_len ccf_len _, .inr ⟨g, o + i * k.sz, c - i, cur, by rw [List.length_drop], h5, h6, by rw [List.length_drop]; omega, by omega, by rw [Nat.sub_mul]; omega, ?_⟩⟩, by simp [h2], fun j d x hd hx => ?_⟩
    · have e1 : gcells ccf (ds.drop i) = (gcells ccf ds).drop (i * k.sz) := by
        have := gcells_append (cf := ccf) (ds.take i) (ds.drop i)
        rw [List.take_append_drop] at this
        have h11 : (gcells ccf (ds.take i)).length = i * k.sz := by rw [gcells_len ccf_len, List.length_take, Nat.min_eq_left hi]
        rw [this, ← h11, List.drop_left]
      rw [e1, ← h10, List.drop_take, List.drop_drop, List.length_drop, Nat.sub_mul]
    · rw [List.getElem?_drop] at hd hx
      exact h3 _ d x hd hx
end Go.Proofs.YtdbnddmncbjobaaGreatDoor

/- The rest of a row, of a queue: the cut 'x[l:]'. -/
namespace Go.Proofs.YtdbnddmncbjobaaGreatDoor
open Go Go.RowKit

theorem row_zero' {β : Type} {k : Lay β} {W : World} {P : Nat → Prop} {b o : Nat} {n : Nat} {xs : List β} (h : k.row W P (some ⟨b, o, none⟩) n xs) (o' : Nat) : k.row W P (some ⟨b, o', none⟩) 0 [] := by
  obtain ⟨ds, _, _, _, h4, _⟩ := h
  exact ⟨[], rfl, rfl, ⟨rfl, fun h => absurd h (Nat.lt_irrefl _)⟩, fun x hx => by injection hx with hx; subst hx; exact h4 ⟨b, o, none⟩ rfl, fun i d x hd => by simp at hd⟩
theorem que_form {β : Type} {k : Lay β} {e : TypeId} {W : World} {base : Nat} {P : Nat → Prop} {A : Option Addr} {n c : Nat} {xs : List β} (h : k.que e W base P (.slice A n c) xs) : (A = none ∧ n = 0 ∧ c = 0) ∨ ∃ g o, A = some ⟨g, o, none⟩ := by
  obtain ⟨ds, h1, _⟩ := h
  rcases h1.2 with ⟨h2, _⟩ | ⟨g, o, cap, cur, h2, _⟩
  · injection h2 with e1 e2 e3; exact .inl ⟨e1, e2, e3⟩
  · injection h2 with e1 e2 e3; exact .inr ⟨g, o, e1⟩
theorem que_empty' {β : Type} {k : Lay β} {e : TypeId} {W : World} {base : Nat} {R : Nat → Prop} {g o n c : Nat} {xs : List β} (h : k.que e W base R (.slice (some ⟨g, o, none⟩) n c) xs) : k.que e W base R (.slice (some ⟨g, o, none⟩) 0 0) [] := by
  obtain ⟨ds, h1, h2, h3⟩ := h
  rcases h1.2 with ⟨h4, _⟩ | ⟨g', o', cap, cur, h4, h5, h6, h7, h8, h9, h10⟩
  · cases h4
  · injection h4 with h4 hn hc
    injection h4 with h4
    injection h4 with hg ho _
    subst hg ho hn hc
    exact ⟨[], ⟨by simp [gcells], .inr ⟨g, o, 0, cur, rfl, h5, h6, Nat.le_refl _, by omega, by omega, by simp [gcells]⟩⟩, rfl, fun i d x hd => by simp at hd⟩
theorem slice_lo (b o n c l : Nat) (hl : l ≤ n) (hn : n ≤ c) (W : World) : (Instr.sliceAt 82 (.slice (some ⟨b, o, none⟩) n c) (some (.int .i64 (l : Int))) none none).run Tryz.prog W = .ok (.slice (some ⟨b, if c = l then o else o + l * 4, none⟩) (n - l) (c - l)) W := by
  have h1 : (l : Int) ≤ (n : Int) := by omega
  have h2 : (l : Int) ≤ (c : Int) := by omega
  by_cases h : c = l
  · subst h
    have : n = c := by omega
    subst this
    go_simp
  · rw [if_neg h]
    have h3 : ¬ l = c := fun e => h e.symm
    go_simp
theorem slice_lo_nil (W : World) : (Instr.sliceAt 82 (.slice none 0 0) (some (.int .i64 0)) none none).run Tryz.prog W = .ok (.slice none 0 0) W := by
  go_simp
theorem body_cut {W : World} {P : Nat → Prop} {b o nb cb : Nat} {bd : List Ln} (h : kLn.row W P (some ⟨b, o, none⟩) nb bd) (hc : nb ≤ cb) (l : Nat) (hl : l ≤ nb) : ∃ o' cb', nb - l ≤ cb' ∧ kLn.row W P (some ⟨b, o', none⟩) (nb - l) (bd.drop l) ∧
    ∀ X, (Instr.sliceAt 82 (.slice (some ⟨b, o, none⟩) nb cb) (some (.int .i64 (l : Int))) none none).run Tryz.prog X = .ok (.slice (some ⟨b, o', none⟩) (nb - l) cb') X := by
  refine ⟨_, _, ?_, ?_, slice_lo b o nb cb l hl hc⟩
  · omega
  · by_cases hcb : cb = l
    · rw [if_pos hcb, List.drop_of_length_le (by have := Lay.row_len h; omega), show nb - l = 0 by omega]
      exact row_zero' h o
    · rw [if_neg hcb]
      exact Lay.row_drop h l
theorem que_cut {W : World} {base : Nat} {P : Nat → Prop} {A : Option Addr} {c : Nat} {q : List Ln} (h : kLn.que 86 W base P (.slice A q.length c) q) (s : Nat) (hs : s ≤ q.length) (hc : q.length ≤ c) : ∃ A' c', kLn.que 86 W base P (.slice A' (q.drop s).length c') (q.drop s) ∧ (∀ j, (Value.slice A' (q.drop s).length c').ownBlock = some j → (Value.slice A q.length c).ownBlock = some j) ∧
    ∀ X, (Instr.sliceAt 82 (.slice A q.length c) (some (.int .i64 (s : Int))) none none).run Tryz.prog X = .ok (.slice A' (q.drop s).length c') X := by
  rcases que_form h with ⟨rfl, h0, rfl⟩ | ⟨g, o, rfl⟩
  · have hq := List.eq_nil_of_length_eq_zero h0
    subst hq
    obtain rfl : s = 0 := by simpa using hs
    exact ⟨none, 0, Lay.que_nil _ _ _ _ _, fun j hj => hj, slice_lo_nil⟩
  · refine ⟨some ⟨g, if c = s then o else o + s * 4, none⟩, c - s, ?_, fun j hj => hj, fun X => by rw [List.length_drop]; exact slice_lo g o q.length c s hs hc X⟩
    by_cases hcs : c = s
    · subst hcs
      rw [if_pos rfl, List.drop_of_length_le (by omega), Nat.sub_self]
      exact que_empty' h
    · rw [if_neg hcs, List.length_drop]
      exact Lay.que_drop h s hs
end Go.Proofs.YtdbnddmncbjobaaGreatDoor

/- book.parts, book.text: copies of a text, walked. -/
namespace Go.Proofs.YtdbnddmncbjobaaGreatDoor
open Go Go.RowKit

theorem own_wd {e : TypeId} {W : World} {base : Nat} {P Q : Nat → Prop} {v : Value} {xs : List Wd} (h : kWd.own e W base P v xs) : kWd.own e W base Q v xs := by
  obtain ⟨ds, h1, h2, h3⟩ := h
  exact ⟨ds, h1, h2, fun i d x hd hx => kWd_rep.2 (kWd_rep.1 (h3 i d x hd hx))⟩
theorem row_wd {W : World} {P : Nat → Prop} {A : Option Addr} {n : Nat} {xs : List Wd} (h : kWd.row W P A n xs) : kWd.row W (fun _ => True) A n xs := Lay.row_mono h fun _ _ _ => True.intro
theorem info60c : (Tryz.prog.info? 60).map (fun i => (i.zero, i.size, i.bytes)) = some (some (Value.agg #[.string ⟨#[]⟩, .string ⟨#[]⟩, .int .i64 0, .int .i64 0]), 4, 48) := by kernel_rfl
set_option maxHeartbeats 4000000 in
set_option maxRecDepth 100000 in
theorem wclone_any (P Q : Nat → Prop) (w : World) (A : Option Addr) (n c : Nat) (xs : List Wd) (h : kWd.row w P A n xs) (hn : n ≤ 1000000) :
    Calls Tryz.prog 150 #[.slice A n c] w (fun e w' => ∃ A' c', e = .returned (.slice A' n c') ∧ n ≤ c' ∧ kWd.own 60 w' w.heap.size Q (.slice A' n c') xs ∧ Ext w w') := by
  have hl := Lay.row_len h
  cases A with
  | none =>
    have h0 : n = 0 := by
      obtain ⟨ds, h1, h2, h3, _⟩ := h
      rcases Nat.eq_zero_or_pos n with h | h
      · exact h
      · obtain ⟨b, off, e, _⟩ := h3.2 h; cases e
    have hx : xs = [] := List.eq_nil_of_length_eq_zero (by omega)
    subst h0 hx
    clear h hl
    have q54 := fun (w : World) (a : Option Addr) (n c n' c' : Nat) => Lib.run_eql_slice_nil (P := Tryz.prog) w _ _ a n c n' c' Tryz.underlying54
    go_enter Tryz.func150, Tryz.ntmps150
    go_wp2_with fail
    go_ret
    exact ⟨none, 0, rfl, Nat.le_refl _, Lay.own_nil _ _ _ _ _, Ext.refl _⟩
  | some a =>
    have ho0 : kWd.own 60 (w.alloc (.cells #[] 60)) w.heap.size (fun _ => True) (.slice (some ⟨w.heap.size, 0, none⟩) 0 0) [] :=
      ⟨[], ⟨by simp [gcells], .inr ⟨w.heap.size, 0, #[], rfl, Nat.le_refl _, heap_alloc_new w _, Nat.le_refl _, by simp [maxLen], by simp, by simp [gcells]⟩⟩, rfl, fun i d x hd => by simp at hd⟩
    obtain ⟨A', c', w', hrun, ho, hx⟩ := own_app (Pr := Tryz.prog) (t := 54) (k := kWd) Tryz.underlying54 info60c rfl (by decide) (by omega) ho0 ((Ext.refl w).alloc _) (row_wd h) c (by simp; omega)
    rw [List.nil_append] at ho
    simp only [List.length_nil, Nat.zero_add] at hrun ho
    have hlen : n ≤ c' := by
      obtain ⟨A9, c9, e9, h9, _⟩ := Lay.own_row ho
      have : c' = c9 := by injection e9
      omega
    have HRUN := Lib.hid hrun
    have HO := Lib.hid ho
    have HX := Lib.hid hx
    clear h hl ho0 hrun ho hx
    have q54 := fun (w : World) (a : Option Addr) (n c n' c' : Nat) => Lib.run_eql_slice_nil (P := Tryz.prog) w _ _ a n c n' c' Tryz.underlying54
    go_enter Tryz.func150, Tryz.ntmps150
    go_wp2_with (first | (at_builtin; refine wpList_append_run (s := .tmp 5) (x := .tmp 6) HRUN.out rfl rfl rfl rfl rfl ?_))
    go_ret
    exact ⟨A', c', rfl, hlen, own_wd HO.out, HX.out⟩
def PtR (w : World) (ps : List (List Wd)) (s3 s8 : Value) (w' : World) : Prop := ∃ i : Nat, i ≤ ps.length ∧ s8 = .int .i64 i ∧ Ext w w' ∧ kWs.own 54 w' w.heap.size (fun j => w.heap.size ≤ j) s3 (ps.take i)
set_option maxHeartbeats 4000000 in
set_option maxRecDepth 100000 in
theorem parts_any (P : Nat → Prop) (w : World) (A : Option Addr) (n c : Nat) (ps : List (List Wd)) (h : kWs.row w P A n ps) (hn : n ≤ 1000000) (hp : ∀ p ∈ ps, p.length ≤ 1000000) :
    Calls Tryz.prog 132 #[.slice A n c] w (fun e w' => ∃ A' c', e = .returned (.slice A' n c') ∧ n ≤ c' ∧ kWs.own 54 w' w.heap.size (fun j => w.heap.size ≤ j) (.slice A' n c') ps ∧ Ext w w') := by
  have HL := Lib.hid (Lay.row_len h)
  have HR := Lib.hid h
  have HP := Lib.hid hp
  clear h hp
  go_enter Tryz.func132, Tryz.ntmps132
  go_wp2_with fail
  go_loopw [3, 8] (fun s3 s8 w' => PtR w ps s3 s8 w') (fun _ s8 _ => toM n s8)
  case atStart => exact ⟨0, by omega, rfl, Ext.refl _, Lay.own_nil _ _ _ _ _⟩
  case round =>
    obtain ⟨i, hi, rfl, hx, ho⟩ := hrel
    have HX := Lib.hid hx
    have HO := Lib.hid ho
    clear hx ho
    by_cases hlt : i < n
    case neg =>
      obtain rfl : n = i := by have := HL.out; omega
      have hni : ¬ ((n : Int) < (n : Int)) := by omega
      obtain ⟨A9, c9, rfl, hc9, _⟩ := Lay.own_row HO.out
      rw [List.take_of_length_le (by have := HL.out; omega)] at HO hc9
      go_wp2_with fail
      go_ret
      have e9 : (List.take n ps).length = n := by rw [List.length_take]; have := HL.out; omega
      have e8 : ps.length = n := HL.out.symm
      rw [e8] at HO hc9
      exact ⟨A9, c9, by rw [← e9]; rfl, hc9, HO.out, HX.out⟩
    have hI : (i : Int) < (n : Int) := by omega
    obtain ⟨p, hp⟩ : ∃ p, ps[i]? = some p := ⟨_, List.getElem?_eq_getElem (by have := HL.out; omega)⟩
    obtain ⟨b0, off, cs, rfl, hb0, _, hrep, hcell⟩ := Lay.row_at (Lay.row_ext HR.out HX.out) hp
    obtain ⟨Ap, cp, rfl, hcp, hrp⟩ := kWs_rep.1 hrep
    have hce := hcell 0 _ rfl
    rw [kWs_sz, Nat.mul_one, Nat.add_zero] at hce
    have HCL := Lib.hid (wclone_any P (fun _ => True) wr Ap p.length cp p hrp (HP.out p (List.mem_of_getElem? hp)))
    have HPI := Lib.hid hp
    clear hrep hrp hcell hp
    go_wp2_with fail
    refine HCL.out.mono ?_
    rintro e w2 ⟨Ac, cc, rfl, hcc, hoc, hx2⟩
    have hlto := Lay.own_lt HO.out
    obtain ⟨Ax, cx, e9, _, hrow⟩ := own_rowN (P := fun _ => False) (Q := fun j => wr.heap.size ≤ j) (own_wd hoc) (fun j hj _ => hj.elim) (fun j hj _ => hj)
    have e9a : Ac = Ax := by injection e9
    rw [← e9a] at hrow
    have hll : (ps.take i).length ≤ 1000000 := by rw [List.length_take]; omega
    obtain ⟨PL, hPL⟩ : ∃ PL, ps.take i = PL := ⟨_, rfl⟩
    rw [hPL] at hll
    have hoE := Lay.own_ext HO.out hx2
    rw [hPL] at hoE
    obtain ⟨A9, c9, w9, hrun, ho9, hb9, hk9, hs9, hn9⟩ := own_app1 (k := kWs) (Pr := Tryz.prog) (t := 51) Tryz.underlying51 info54 rfl (by decide) (by omega) hoE (Nat.le_trans HX.out.lt hx2.lt) (cs := #[.slice Ac p.length cc]) (T := 54) (x := p) (kWs_rep.2 ⟨Ac, cc, rfl, hcc, Lay.row_mono hrow fun j hj _ => ⟨Nat.le_trans HX.out.lt hj, fun e => by have := (hlto j e).2; omega⟩⟩) 1 (by omega)
    have HRUN := Lib.hid hrun
    have HREL := Lib.hid (show PtR w ps (.slice A9 (PL.length + 1) c9) (.int .i64 ((i : Int) + 1)) w9 from ⟨i + 1, by have := HL.out; omega, by simp, Below.trans (HX.out.trans hx2) (hb9 _ (Nat.le_refl _)), by rw [List.take_add_one, HPI.out, hPL]; exact ho9⟩)
    clear hrun ho9 hb9 hk9 hs9 hn9 hrow hoc hx2 hlto hll e9 e9a hoE hPL
    go_wp2_with (first | (at_builtin; refine wpList_append_run (s := .tmp 12) (x := .tmp 15) HRUN.out rfl rfl rfl rfl rfl ?_))
    go_roundw
    case rel => exact HREL.out
    case measure => simp only [toM]; omega
end Go.Proofs.YtdbnddmncbjobaaGreatDoor
