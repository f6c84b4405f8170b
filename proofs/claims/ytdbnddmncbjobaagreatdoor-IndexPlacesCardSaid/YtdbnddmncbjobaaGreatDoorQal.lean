/- Lines, one by one. -/
import Derived.Test.YtdbnddmncbjobaaGreatDoorQak
import Derived.StillTailTactics
namespace Go.Proofs.YtdbnddmncbjobaaGreatDoor
section

def ntsOf (ws : List Wd) : List Int := ws.filterMap fun w => if w.nt ≠ 0 then some (w.nt - 1) else none
theorem linesGo_len (m : Int) : ∀ (ls : List Nat) (ws : List Wd) (first : Int), (linesGo m ws ls first).length = ls.length := by
  intro ls
  induction ls with
  | nil => intro ws first; rfl
  | cons l ls ih => intro ws first; simp only [linesGo, List.length_cons, ih]
theorem linesGo_at (m : Int) : ∀ (ls : List Nat) (ws : List Wd) (first : Int) (i l : Nat), ls[i]? = some l →
    (linesGo m ws ls first)[i]? = some ⟨first + ((ls.take i).sum : Nat), first + (((ls.take i).sum + l : Nat) : Int), gapsP (((ws.drop (ls.take i).sum).take l).map fun w => wid w.s) m (decide (i + 1 = ls.length)), ntsOf ((ws.drop (ls.take i).sum).take l)⟩ := by
  intro ls
  induction ls with
  | nil => intro ws first i l h; simp at h
  | cons a r ih =>
    intro ws first i l h
    cases i with
    | zero =>
      obtain rfl : a = l := by simpa using h
      have : (r.isEmpty) = decide (0 + 1 = (a :: r).length) := by
        cases r <;> simp
      simp [linesGo, ntsOf, this]
    | succ i =>
      simp only [linesGo, List.getElem?_cons_succ]
      rw [ih (ws.drop a) (first + a) i l (by simpa using h)]
      simp only [List.take_succ_cons, List.sum_cons, List.drop_drop, List.length_cons, Option.some.injEq, Ln.mk.injEq, and_true]
      refine ⟨by omega, by omega, ?_⟩
      congr 1
      exact decide_eq_decide.2 (by omega)
theorem cum_at : ∀ (ls : List Nat) (f : Int) (i l : Nat), ls[i]? = some l → (cum f ls)[i]? = some (f + (((ls.take i).sum + l : Nat) : Int)) := by
  intro ls
  induction ls with
  | nil => intro f i l h; simp at h
  | cons a r ih =>
    intro f i l h
    cases i with
    | zero =>
      obtain rfl : a = l := by simpa using h
      simp [cum]
    | succ i =>
      simp only [cum, List.getElem?_cons_succ]
      rw [ih _ i l (by simpa using h)]
      simp only [List.take_succ_cons, List.sum_cons, Option.some.injEq]
      rw [Int.natCast_add, Int.natCast_add, Int.natCast_add]; omega
theorem sum_take_le (ls : List Nat) {i l : Nat} (h : ls[i]? = some l) : (ls.take i).sum + l ≤ ls.sum := by
  have h1 : (ls.take (i + 1)).sum = (ls.take i).sum + l := by rw [List.take_add_one, h]; simp
  have h2 := List.take_append_drop (i + 1) ls
  have h3 : ls.sum = (ls.take (i + 1)).sum + (ls.drop (i + 1)).sum := by rw [← List.sum_append, h2]
  omega
theorem sum_take_succ (ls : List Nat) {i l : Nat} (h : ls[i]? = some l) : (ls.take (i + 1)).sum = (ls.take i).sum + l := by
  rw [List.take_add_one, h]; simp
/-- The gap i of a line. -/
def gapAt (s k : Int) (i : Nat) : Int := 6 + s.tdiv k + (if (i : Int) < s.tmod k then 1 else 0)
theorem gapsGo_len (s k : Int) : ∀ (n : Nat) (i : Int), (gapsGo s k n i).length = n := by
  intro n
  induction n with
  | zero => intro i; rfl
  | succ n ih => intro i; simp [gapsGo, ih]
theorem gapsGo_at (s k : Int) : ∀ (n j i : Nat), i < n → (gapsGo s k n j)[i]? = some (gapAt s k (j + i)) := by
  intro n
  induction n with
  | zero => intro j i h; omega
  | succ n ih =>
    intro j i h
    cases i with
    | zero => simp [gapsGo, gapAt]
    | succ i =>
      simp only [gapsGo, List.getElem?_cons_succ]
      have := ih (j + 1) i (by omega)
      rw [Int.natCast_add] at this
      rw [show ((1 : Nat) : Int) = 1 from rfl] at this
      rw [this, show j + 1 + i = j + (i + 1) by omega]
theorem setP_lens (ws : List Wd) (first m : Int) : (setP ws first m).length = (lens (ws.map fun w => wid w.s) m).length := linesGo_len _ _ _ _
end
section
open Go Go.RowKit

theorem size3 : (Tryz.prog.info? 3).map (·.size) = some 1 := by kernel_rfl
def ReRel (w : World) (b k : Nat) (s8 : Value) (w' : World) : Prop := ∃ j : Nat, 1 ≤ j ∧ j ≤ k ∧ s8 = .int .i64 j ∧ Ext w w' ∧ Arr w' b (List.replicate j 6 ++ List.replicate (k - j) 0)
theorem splice_six (k j m : Nat) (hm : m ≤ k - j) : splice ((List.replicate j (6 : Int) ++ List.replicate (k - j) 0).map (Value.int .i64)) j ((List.replicate m (6 : Int)).map (Value.int .i64)) = (List.replicate (j + m) (6 : Int) ++ List.replicate (k - (j + m)) 0).map (Value.int .i64) := by
  unfold splice
  apply List.ext_getElem?
  intro i
  simp only [List.map_append, List.map_replicate, List.getElem?_append, List.getElem?_replicate, List.length_replicate, List.getElem?_take, List.getElem?_drop, List.length_take, List.length_append]
  repeat' split
  all_goals first | rfl | (exfalso; omega)
set_option maxHeartbeats 4000000 in
set_option maxRecDepth 100000 in
theorem repeat_any (w : World) (g k : Nat) (hk : 1 ≤ k) (hk2 : k ≤ 1000) (hg : w.cell? ⟨g, 0, none⟩ = some (.int .i64 6)) :
    Calls Tryz.prog 241 #[.slice (some ⟨g, 0, none⟩) 1 1, .int .i64 k] w (fun e w' => ∃ b, e = .returned (.slice (some ⟨b, 0, none⟩) k k) ∧ w.heap.size ≤ b ∧ Arr w' b (List.replicate k 6) ∧ Ext w w') := by
  have HM := Lib.hid (fun W => show Calls Tryz.prog 249 #[.int .u64 1, .int .u64 (k : Int)] W (fun e w' => e = .returned (.tuple #[.int .u64 0, .int .u64 (k : Int)]) ∧ w' = W) from by
    have := Tryz.bits_Mul 1 k (by omega) (by omega) W
    rwa [show (1 * k / 18446744073709551616 : Nat) = 0 by omega, show (1 * k % 18446744073709551616 : Nat) = k by omega] at this)
  obtain ⟨Z, hz, hmk⟩ := mkInts k (by omega) (k : Int) rfl
  have hB0 := hz (w.alloc (.cells Z 3)) w.heap.size (heap_alloc_new w _)
  unfold Arr at hB0
  have HB0 := Lib.hid hB0
  have HGC := Lib.hid hg
  have HGB := Lib.hid (World.block_lt_of_cell? w _ hg)
  have HSRC := Lib.hid (show ∀ j v, ((List.replicate 1 (6 : Int)).map (Value.int .i64))[j]? = some v → (w.alloc (.cells Z 3)).cell? ((⟨g, 0, none⟩ : Addr).add j) = some v from fun j v hj => by
    cases j with
    | zero =>
      simp only [List.replicate_one, List.map_cons, List.map_nil, List.getElem?_cons_zero, Option.some.injEq] at hj
      subst hj
      rw [Addr.add_lit]
      exact (((Ext.refl w).alloc (.cells Z 3)).cells.1 g 0 HGB.out).trans hg
    | succ j => simp at hj)
  clear hz hB0 hg
  go_enter Tryz.func241, Tryz.ntmps241
  go_wp2_with (first | (go_at_call 249; refine (HM.out _).mono ?_; rintro e w1 ⟨rfl, hw1⟩; obtain rfl := hw1.symm) | (refine wpList_copy_splice rfl (.tmp 31) (.tmp 32) 22 22 rfl 3 Tryz.underlying22 size3 _ _ k k 1 1 rfl rfl w.heap.size 0 ((List.replicate k (0 : Int)).map (Value.int .i64)) 3 HB0.out ((List.replicate 1 (6 : Int)).map (Value.int .i64)) (by rw [List.length_map, List.length_replicate]; exact (Nat.min_eq_left hk).symm) (fun _ => ⟨rfl, ⟨g, 0, none⟩, rfl, HSRC.out⟩) (by simp; omega) (by simp [Value.oneCell']) w.heap.size w ((Below.refl _ _).alloc (Nat.le_refl _) _) (Nat.le_refl _) ?_; intro w2 hg2 hb2))
  have hS := splice_six k 0 1 (by omega)
  simp only [List.replicate_zero, List.nil_append, Nat.sub_zero, Nat.zero_add] at hS
  rw [hS] at hg2
  have HB2 := Lib.hid (show Arr w2 w.heap.size (List.replicate 1 6 ++ List.replicate (k - 1) 0) from hg2.out)
  have HX2 := Lib.hid (show Ext w w2 from hb2)
  clear hS hg2 hb2
  go_loopw [8] (fun s8 w' => ReRel w w.heap.size k s8 w') (fun s8 _ => toM k s8)
  case atStart => exact ⟨1, by omega, hk, rfl, HX2.out, HB2.out⟩
  case round =>
    obtain ⟨j, hj1, hj2, rfl, hx, hb⟩ := hrel
    have HX := Lib.hid hx
    have HB := Lib.hid hb
    clear hx hb HX2 HB2
    by_cases hlt : j < k
    case neg =>
      obtain rfl : j = k := by omega
      have hni : ¬ ((j : Int) < (j : Int)) := by omega
      go_wp2_with fail
      go_ret
      exact ⟨w.heap.size, rfl, Nat.le_refl _, by have := HB.out; rwa [Nat.sub_self, List.replicate_zero, List.append_nil] at this, HX.out⟩
    have hI : (j : Int) < (k : Int) := by omega
    go_wp2_with fail
    obtain ⟨d, hd⟩ : ∃ d, Nat.min j (k - j) = d := ⟨_, rfl⟩
    have hd2 : min j (k - j) = d := hd
    have hd4 : 1 ≤ d := by omega
    have hd5 : d ≤ k - j := by omega
    have hd6 : d ≤ j := by omega
    have HSR := Lib.hid (show ∀ W : World, ∀ i v, ((List.replicate d (6 : Int)).map (Value.int .i64))[i]? = some v → W.heap[w.heap.size]? = wr.heap[w.heap.size]? → W.cell? ((⟨w.heap.size, 0, none⟩ : Addr).add i) = some v from fun W i v hv hW => by
      rw [List.getElem?_map, List.getElem?_replicate] at hv
      split at hv
      · next hi =>
        simp only [Option.map_some, Option.some.injEq] at hv
        subst hv
        rw [Addr.add_lit, Nat.zero_add]
        exact (HB.out.keep hW).cell (i := i) (x := 6) (by rw [List.getElem?_append_left (by rw [List.length_replicate]; omega), List.getElem?_replicate, if_pos (by omega)])
      · cases hv)
    have HFI := Lib.hid (show j + (List.map (Value.int IntKind.i64) (List.replicate d (6 : Int))).length ≤ ((List.replicate j (6 : Int) ++ List.replicate (k - j) 0).map (Value.int .i64)).length by rw [List.length_map, List.length_map, List.length_append, List.length_replicate, List.length_replicate, List.length_replicate]; omega)
    have HON := Lib.hid (show ∀ v ∈ (List.map (Value.int IntKind.i64) (List.replicate d (6 : Int))), v.oneCell' = true by
      intro v hv
      obtain ⟨x, _, rfl⟩ := List.mem_map.1 hv
      rfl)
    have HMI := Lib.hid (show (List.map (Value.int IntKind.i64) (List.replicate d (6 : Int))).length = Nat.min j (k - j) by rw [List.length_map, List.length_replicate]; exact hd.symm)
    have HBD := Lib.hid (show wr.drew.heap[w.heap.size]? = some (.cells ((List.replicate j (6 : Int) ++ List.replicate (k - j) 0).map (Value.int .i64)).toArray 3 (0, 0)) by have := HB.out; unfold Arr at this; exact this)
    have hwr : IntKind.i64.wrap ((j : Int) + (d : Int)) = (j : Int) + (d : Int) := IntWalk.i64_in _ (by omega)
    clear hd hd2
    go_region_held3 (fun _ => True) (trivial) (first | (refine step_copy_splice rfl (.tmp 41) (.tmp 44) 22 22 rfl 3 Tryz.underlying22 size3 (some ⟨w.heap.size, j, none⟩) (some ⟨w.heap.size, 0, none⟩) (k - j) (k - j) j k (by simp [Act.eval]; omega) (by simp [Act.eval]) w.heap.size j ((List.replicate j (6 : Int) ++ List.replicate (k - j) 0).map (Value.int .i64)) 3 HBD.out ((List.replicate d (6 : Int)).map (Value.int .i64)) HMI.out (fun _ => ⟨rfl, ⟨w.heap.size, 0, none⟩, rfl, fun i v hv => HSR.out _ i v hv rfl⟩) HFI.out HON.out w.heap.size w (Ext.drew HX.out) (Nat.le_refl _) ?_; intro w3 hg3 hb3))
    rw [splice_six k j d hd5] at hg3
    have HB3 := Lib.hid (show Arr w3 w.heap.size (List.replicate (j + d) 6 ++ List.replicate (k - (j + d)) 0) from hg3.out)
    have HX3 := Lib.hid (show Ext w w3 from hb3)
    clear hg3 hb3
    go_wp2_with fail
    go_roundw
    case rel => exact ⟨j + d, by omega, by omega, by simp, HX3.out, HB3.out⟩
    case measure => simp only [toM]; omega
end
section
open Go Go.RowKit

theorem gcells_ints (l : List Int) : gcells ccf (l.map iCs) = l.map (Value.int .i64) := by
  induction l with
  | nil => rfl
  | cons a r ih =>
    show ccf (iCs a) ++ gcells ccf (r.map iCs) = _
    rw [ih]; rfl
/-- An array of its own as a row of its own. -/
theorem Arr.own {w : World} {b : Nat} {l : List Int} (h : Arr w b l) (hl : l.length ≤ 1000000) {base : Nat} (hb : base ≤ b) (P : Nat → Prop) : kInt.own 3 w base P (.slice (some ⟨b, 0, none⟩) l.length l.length) l := by
  refine ⟨l.map iCs, ⟨by rw [gcells_len ccf_len], .inr ⟨b, l.length, _, by rw [List.length_map], hb, h, by rw [List.length_map]; exact Nat.le_refl _, by simp only [maxLen]; omega, by simp [kInt], ?_⟩⟩, List.length_map .., fun i d x hd hx => ?_⟩
  · rw [gcells_ints, List.length_map, List.take_of_length_le]
    simp [kInt]
  · obtain ⟨y, hy, rfl⟩ := iCs_at hd
    rw [hy] at hx
    injection hx with hx
    subst hx
    rfl
def gapL (s : Int) (k i : Nat) : List Int := (gapsGo s k k 0).take i ++ List.replicate (k - i) 6
theorem gapL_set (s : Int) (k i : Nat) (hi : i < k) (x : Int) (hx : x = gapAt s k i) : (gapL s k i).set i x = gapL s k (i + 1) := by
  subst hx
  have hl := gapsGo_len s k k 0
  apply List.ext_getElem?
  intro j
  unfold gapL
  have hg : ∀ j, j < k → (gapsGo s k k 0)[j]? = some (gapAt s k j) := fun j hj => by
    have := gapsGo_at s k k 0 j hj
    rw [Nat.zero_add] at this
    exact this
  have hn : ∀ j, k ≤ j → (gapsGo s k k 0)[j]? = none := fun j hj => List.getElem?_eq_none (by omega)
  simp only [List.getElem?_set, List.getElem?_append, List.getElem?_take, List.length_append, List.length_take, hl, List.length_replicate, List.getElem?_replicate]
  rcases Nat.lt_or_ge j k with h | h
  · rw [hg j h]
    repeat' split
    all_goals first | rfl | (exfalso; omega) | (congr 2; omega) | (congr 2)
  · rw [hn j h]
    repeat' split
    all_goals first | rfl | (exfalso; omega)
theorem gapL_at (s : Int) (k i : Nat) (hi : i < k) : (gapL s k i)[i]? = some 6 := by
  unfold gapL
  rw [List.getElem?_append_right (by rw [List.length_take]; omega), List.getElem?_replicate, List.length_take, gapsGo_len, if_pos (by omega)]
def GpRel (w : World) (b k : Nat) (s : Int) (s26 : Value) (w' : World) : Prop := ∃ i : Nat, i ≤ k ∧ s26 = .int .i64 i ∧ Ext w w' ∧ Arr w' b (gapL s k i)
theorem slackP_bd {m : Int} (hm0 : 0 ≤ m) (hm : m ≤ 2000) (ws : List Int) (h : Wds ws) (hl : ws.length ≤ 500) : -300000 ≤ slackP ws m ∧ slackP ws m ≤ 2006 := by
  have := slackF_bd hm0 hm ws h
  have e : slackP ws m = slackF m ws := rfl
  rw [e]; omega
set_option maxHeartbeats 4000000 in
set_option maxRecDepth 100000 in
theorem gaps_any (P : Nat → Prop) (w : World) (A : Option Addr) (n c : Nat) (ws : List Int) (m : Int) (last : Bool) (h : kInt.row w P A n ws) (hw : Wds ws) (hn : n ≤ 500) (hm0 : 0 ≤ m) (hm : m ≤ 2000) :
    Calls Tryz.prog 221 #[.slice A n c, .int .i64 m, .bool last] w (fun e w' => ∃ A' c', e = .returned (.slice A' (gapsP ws m last).length c') ∧ kInt.own 3 w' w.heap.size (fun _ => True) (.slice A' (gapsP ws m last).length c') (gapsP ws m last) ∧ Ext w w') := by
  have hl := Lay.row_len h
  rcases Nat.lt_or_ge n 2 with h1 | h1
  · have HE := Lib.hid (show gapsP ws m last = [] by
      have : ws.length - 1 = 0 := by omega
      unfold gapsP
      rw [this]
      cases last <;> rfl)
    have h2 : (n : Int) - 1 < 1 := by omega
    clear h hl hw
    go_enter Tryz.func221, Tryz.ntmps221
    go_wp2_with fail
    go_ret
    exact ⟨none, 0, by rw [HE.out]; rfl, by rw [HE.out]; exact Lay.own_nil _ _ _ _ _, Ext.refl _⟩
  obtain ⟨k, rfl⟩ : ∃ k, n = k + 1 := ⟨n - 1, by omega⟩
  have HLN := Lib.hid (show ws.length - 1 = k by omega)
  have HR := Lib.hid h
  have HREP := Lib.hid (fun W g => repeat_any W g k (by omega) (by omega))
  have hbd := slackP_bd hm0 hm ws hw (by omega)
  have HSL := Lib.hid (fun W (hX : Ext w W) => slack_any P W A (k + 1) c ws m (Lay.row_ext h hX) hw (by omega) hm0 hm)
  obtain ⟨s, hs⟩ : ∃ s, slackP ws m = s := ⟨_, rfl⟩
  rw [hs] at HSL hbd
  have HS := Lib.hid hs
  have h1k : 1 ≤ (k : Int) := by omega
  have hk5 : (k : Int) ≤ 499 := by omega
  obtain ⟨hb1, hb2⟩ := hbd
  clear h hl hw hs
  cases last with
  | true =>
    go_enter Tryz.func221, Tryz.ntmps221
    go_wp2_with (first | (go_at_call 241; refine (HREP.out _ _ (by go_simp)).mono ?_; rintro e w1 ⟨b, rfl, hb, ha, hx⟩; have HA := Lib.hid ha; have HX := Lib.hid (((Ext.refl w).alloc _).trans hx); clear ha hx))
    go_ret
    have hg : gapsP ws m true = List.replicate k 6 := by unfold gapsP; rw [HLN.out]; rfl
    rw [hg, List.length_replicate]
    have := HA.out.own (by rw [List.length_replicate]; omega) (base := w.heap.size) (by rw [World.size_alloc] at hb; omega) (fun _ => True)
    rw [List.length_replicate] at this
    exact ⟨_, _, rfl, this, HX.out⟩
  | false =>
    obtain ⟨dv, hdv⟩ : ∃ dv, s.tdiv (k : Int) = dv := ⟨_, rfl⟩
    obtain ⟨md, hmd⟩ : ∃ md, s.tmod (k : Int) = md := ⟨_, rfl⟩
    have hdb : -300000 ≤ dv ∧ dv ≤ 300000 := by
      have := Int.natAbs_tdiv_le_natAbs s k
      rw [hdv] at this
      omega
    obtain ⟨hdb1, hdb2⟩ := hdb
    have hwd : IntKind.i64.wrap dv = dv := IntWalk.i64_in _ (by omega)
    have HGL := Lib.hid (show gapsP ws m false = gapL s k k by
      unfold gapsP gapL
      rw [HLN.out, HS.out, Nat.sub_self, List.replicate_zero, List.append_nil, List.take_of_length_le (by rw [gapsGo_len]; exact Nat.le_refl _)]
      rfl)
    have HAT := Lib.hid (fun i => show gapAt s k i = 6 + dv + (if (i : Int) < md then 1 else 0) by unfold gapAt; rw [hdv, hmd])
    have hk0 : ¬ (k : Int) = 0 := by omega
    have hk00 : ¬ k = 0 := by omega
    have hkb : ((k : Int) == 0) = false := by rw [beq_eq_false_iff_ne]; exact hk0
    have hw6 : IntKind.i64.wrap (6 + dv) = 6 + dv := IntWalk.i64_in _ (by omega)
    go_enter Tryz.func221, Tryz.ntmps221
    go_wp2_with (first | (go_at_call 241; refine (HREP.out _ _ (by go_simp)).mono ?_; rintro e w1 ⟨b, rfl, hb, ha, hx⟩; have HA := Lib.hid ha; have HX := Lib.hid (((Ext.refl w).alloc _).trans hx); clear ha hx) | (go_at_call 242; refine (HSL.out _ HX.out).mono ?_; rintro e w2 ⟨rfl, hw2⟩; obtain rfl := hw2.symm))
    rw [World.size_alloc] at hb
    go_loopw [10, 26] (fun _ s26 w' => GpRel w b k s s26 w') (fun _ s26 _ => toM k s26)
    case atStart => exact ⟨0, by omega, rfl, HX.out, HA.out⟩
    case round =>
      obtain ⟨i, hi, rfl, hx, ha⟩ := hrel
      have HXr := Lib.hid hx
      have HAr := Lib.hid ha
      clear hx ha HX HA
      by_cases hlt : i < k
      case neg =>
        obtain rfl : i = k := by omega
        have hni : ¬ ((i : Int) < (i : Int)) := by omega
        go_wp2_with fail
        go_ret
        rw [HGL.out]
        have hlen : (gapL s i i).length = i := by unfold gapL; rw [List.length_append, List.length_take, gapsGo_len, List.length_replicate]; omega
        have := HAr.out.own (by omega) (base := w.heap.size) (by omega) (fun _ => True)
        rw [hlen] at this ⊢
        exact ⟨_, _, rfl, this, HXr.out⟩
      have hI : (i : Int) < (k : Int) := by omega
      have hc6 := HAr.out.cell (gapL_at s k i hlt)
      have hfz := HAr.out.frozen i
      go_wp2_with fail
      by_cases hmdi : (i : Int) < md
      · have HA1 := Lib.hid ((HAr.out.set i (6 + dv)).set i (6 + dv + 1))
        rw [List.set_set, gapL_set s k i hlt _ (by rw [HAT.out, if_pos hmdi])] at HA1
        have HX1 := Lib.hid ((HXr.out.setCell (p := ⟨b, i, none⟩) (by show w.heap.size ≤ b; omega) (.int .i64 (6 + dv))).setCell (p := ⟨b, i, none⟩) (by show w.heap.size ≤ b; omega) (.int .i64 (6 + dv + 1)))
        go_still_tail 9, (by kernel_rfl)
        go_wp2_with fail
        go_roundw
        case rel => exact ⟨i + 1, by omega, by simp, HX1.out.drew, HA1.out⟩
        case measure => simp only [toM]; omega
      · have HA1 := Lib.hid (HAr.out.set i (6 + dv))
        rw [gapL_set s k i hlt _ (by rw [HAT.out, if_neg hmdi]; omega)] at HA1
        have HX1 := Lib.hid (HXr.out.setCell (p := ⟨b, i, none⟩) (by show w.heap.size ≤ b; omega) (.int .i64 (6 + dv)))
        go_still_tail 9, (by kernel_rfl)
        go_wp2_with fail
        go_roundw
        case rel => exact ⟨i + 1, by omega, by simp, HX1.out.drew, HA1.out⟩
        case measure => simp only [toM]; omega
end
end Go.Proofs.YtdbnddmncbjobaaGreatDoor