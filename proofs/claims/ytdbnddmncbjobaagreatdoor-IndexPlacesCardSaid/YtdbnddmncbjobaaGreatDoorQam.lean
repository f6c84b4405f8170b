/- para.set: walked. -/
import Derived.Test.YtdbnddmncbjobaaGreatDoorQal
namespace Go.Proofs.YtdbnddmncbjobaaGreatDoor
section
open Go Go.RowKit

def wdsL (ws : List Wd) : List Int := ws.map fun w => wid w.s
/-- The words are words. -/
def WsV (ws : List Wd) : Prop := ∀ w ∈ ws, 1 ≤ wid w.s ∧ 0 ≤ w.nt ∧ w.nt ≤ 100000
theorem WsV.wdr {ws : List Wd} (h : WsV ws) : Wdr (wdsL ws) := fun x hx => by
  obtain ⟨w, hw, rfl⟩ := List.mem_map.1 hx
  exact ⟨(h w hw).1, (wid_bd w.s).2⟩
/-- make of n lines. -/
theorem mkLines (n : Nat) (hn : n ≤ 1000000) (N : Int) (hN : N = (n : Int)) : ∃ Z : Array Value, (∀ W (b : Nat) (w : World) P, W.heap[b]? = some (.cells Z 86 (0, 0)) → w.heap.size ≤ b → kLn.own 86 W w.heap.size P (.slice (some ⟨b, 0, none⟩) n n) (List.replicate n ⟨0, 0, [], []⟩)) ∧
    ∀ W, (Instr.makeSlice 82 (.int .i64 N) (.int .i64 N)).run Tryz.prog W = .ok (.slice (some ⟨W.heap.size, 0, none⟩) n n) (W.alloc (.cells Z 86)) := by
  refine ⟨_, fun W b w P h hb => ?_, fun W => run_mk (P := Tryz.prog) Tryz.underlying82 info86 (by omega) n hn N hN W⟩
  refine own_zero (k := kLn) 86 w P ⟨0, 0, [], []⟩ [.int .i64 0, .int .i64 0, .slice none 0 0, .slice none 0 0] (fun W Q => kLn_rep.2 ⟨none, 0, 0, none, 0, 0, rfl, Nat.le_refl _, Nat.le_refl _, Lay.row_nil _ _ _, Lay.row_nil _ _ _⟩) n hn _ ?_ W b h hb
  exact made_flat #[.int .i64 0, .int .i64 0, .slice none 0 0, .slice none 0 0] (by decide) n
/-- The widths of the first i words are reckoned. -/
def SuW (w : World) (b : Nat) (ws : List Wd) (s24 : Value) (w' : World) : Prop := ∃ i : Nat, i ≤ ws.length ∧ s24 = .int .i64 i ∧ Ext w w' ∧ Arr w' b ((wdsL ws).take i ++ List.replicate (ws.length - i) 0)
theorem take_set (l : List Int) (n i : Nat) (x : Int) (hi : i < n) (h : l[i]? = some x) : (l.take i ++ List.replicate (n - i) 0).set i x = l.take (i + 1) ++ List.replicate (n - (i + 1)) 0 := by
  have hl := (List.getElem?_eq_some_iff.1 h).1
  rw [List.set_append_right _ _ (by rw [List.length_take]; omega), List.length_take, Nat.min_eq_left (by omega), Nat.sub_self, show n - i = (n - (i + 1)) + 1 by omega, List.replicate_succ, List.set_cons_zero, List.take_add_one, h]
  simp
theorem take_setL {γ : Type} (z : γ) (l : List γ) (n i : Nat) (x : γ) (hi : i < n) (h : l[i]? = some x) : (l.take i ++ List.replicate (n - i) z).set i x = l.take (i + 1) ++ List.replicate (n - (i + 1)) z := by
  have hl := (List.getElem?_eq_some_iff.1 h).1
  rw [List.set_append_right _ _ (by rw [List.length_take]; omega), List.length_take, Nat.min_eq_left (by omega), Nat.sub_self, show n - i = (n - (i + 1)) + 1 by omega, List.replicate_succ, List.set_cons_zero, List.take_add_one, h]
  simp
/-- The first i lines are set. -/
def SuL (w3 : World) (w : World) (g : Nat) (ls : List Nat) (LN : List Ln) (s13 s47 : Value) (w' : World) : Prop := ∃ i F : Nat, i ≤ ls.length ∧ s47 = .int .i64 i ∧ s13 = .int .i64 F ∧ F = (ls.take i).sum ∧ Mv g w3 w' ∧ kLn.own 86 w' w.heap.size (fun j => w.heap.size ≤ j) (.slice (some ⟨g, 0, none⟩) ls.length ls.length) (LN.take i ++ List.replicate (ls.length - i) ⟨0, 0, [], []⟩)
/-- The notes of the first j words of a line are met. -/
def SuN (w4 : World) (bl : Nat) (f1 f2 : Int) (gv : Value) (p : List Wd) (s76 : Value) (w' : World) : Prop := ∃ (j : Nat) (nv : Value), j ≤ p.length ∧ s76 = .int .i64 j ∧ Mv bl w4 w' ∧ w'.heap[bl]? = some (.cells #[.int .i64 f1, .int .i64 f2, gv, nv] 86 (0, 0)) ∧ kInt.own 3 w' w4.heap.size (fun _ => True) nv (ntsOf (p.take j))
theorem Mv.mv {g bl : Nat} {w3 w4 w5 : World} (h : Mv g w3 w4) (h2 : Mv bl w4 w5) (hbl : w3.heap.size ≤ bl) : Mv g w3 w5 :=
  ⟨Nat.le_trans h.size h2.size, fun k hk hl => (h2.keep k (by omega) (Nat.lt_of_lt_of_le hl h.size)).trans (h.keep k hk hl), fun w0 h0 hx => h2.ext w0 (Nat.le_trans hx.lt hbl) (h.ext w0 h0 hx)⟩
theorem Mv.app {bl : Nat} {w4 X w9 : World} (h : Mv bl w4 X) (hk : ∀ j, j < w4.heap.size → w9.heap[j]? = X.heap[j]?) (hs : X.heap.size ≤ w9.heap.size) (hb : ∀ B, B ≤ w4.heap.size → Below B X w9) : Mv bl w4 w9 :=
  ⟨Nat.le_trans h.size hs, fun k h1 h2 => (hk k h2).trans (h.keep k h1 h2), fun w0 h0 hx => Below.trans (h.ext w0 h0 hx) (hb _ hx.lt)⟩
theorem own_block {β : Type} {k : Lay β} {e : TypeId} {W : World} {base g n c : Nat} {P : Nat → Prop} {xs : List β} (h : k.own e W base P (.slice (some ⟨g, 0, none⟩) n c) xs) : ∃ cur, W.heap[g]? = some (.cells cur e (0, 0)) ∧ xs.length * k.sz ≤ cur.size := by
  obtain ⟨ds, h1, h2, _⟩ := h
  rcases h1.2 with ⟨h3, _⟩ | ⟨g', cap, cur, h3, h4, h5, h6, h7, h8, _⟩
  · cases h3
  · injection h3 with h3 _ h9
    injection h3 with h3
    injection h3 with h3
    subst h3
    exact ⟨cur, h5, Nat.le_trans (by rw [← h2]; exact Nat.mul_le_mul_right _ h6) (Nat.le_of_eq h8.symm)⟩
theorem frozen_of {W : World} {g : Nat} {cur : Array Value} {e : TypeId} (h : W.heap[g]? = some (.cells cur e (0, 0))) (i : Nat) : W.frozen? ⟨g, i, none⟩ = false := by
  unfold World.frozen?
  simp only [h]
  simp
theorem cell_of {W : World} {g : Nat} {cur : Array Value} {e : TypeId} (h : W.heap[g]? = some (.cells cur e (0, 0))) {i : Nat} {u : Value} (hi : cur[i]? = some u) : W.cell? ⟨g, i, none⟩ = some u := by
  unfold World.cell?
  simp only [h]
  simpa using hi
theorem own_int {e : TypeId} {W : World} {base : Nat} {P Q : Nat → Prop} {v : Value} {xs : List Int} (h : kInt.own e W base P v xs) : kInt.own e W base Q v xs := by
  obtain ⟨ds, h1, h2, h3⟩ := h
  exact ⟨ds, h1, h2, fun i d x hd hx => h3 i d x hd hx⟩
theorem len_le_sum (l : List Nat) (h : ∀ x ∈ l, 1 ≤ x) : l.length ≤ l.sum := by
  induction l with
  | nil => exact Nat.le_refl _
  | cons a r ih =>
    have h1 := h a (by simp)
    have h2 := ih fun x hx => h x (List.mem_cons_of_mem _ hx)
    simp only [List.length_cons, List.sum_cons]; omega
theorem ntsOf_succ (p : List Wd) {j : Nat} {x : Wd} (h : p[j]? = some x) : ntsOf (p.take (j + 1)) = ntsOf (p.take j) ++ (if x.nt ≠ 0 then [x.nt - 1] else []) := by
  unfold ntsOf
  rw [List.take_add_one, h, List.filterMap_append]
  congr 1
  by_cases h0 : x.nt = 0 <;> simp [h0]
theorem ntsOf_len (p : List Wd) : (ntsOf p).length ≤ p.length := List.length_filterMap_le ..
set_option maxHeartbeats 8000000 in
set_option maxRecDepth 100000 in
theorem set_any (P : Nat → Prop) (w : World) (A : Option Addr) (n c : Nat) (ws : List Wd) (first m : Int) (h : kWd.row w P A n ws) (hc : n ≤ c) (hv : WsV ws) (hn : n ≤ 500) (hf0 : 0 ≤ first) (hf : first ≤ 1000000) (hm0 : 500 ≤ m) (hm : m ≤ 2000) (hL : EnvW w) :
    Calls Tryz.prog 185 #[.slice A n c, .int .i64 first, .int .i64 m] w (fun e w' => ∃ A' c', e = .returned (.slice A' (setP ws first m).length c') ∧ (setP ws first m).length ≤ c' ∧ kLn.own 86 w' w.heap.size (fun j => w.heap.size ≤ j) (.slice A' (setP ws first m).length c') (setP ws first m) ∧ Ext w w') := by
  have HL := Lib.hid (Lay.row_len h)
  have HR := Lib.hid h
  have HV := Lib.hid hv
  have HENV := Lib.hid hL
  obtain ⟨Z, hz, hmk⟩ := mkInts n (by omega) (n : Int) rfl
  have hA0 := hz (w.alloc (.cells Z 3)) w.heap.size (heap_alloc_new w _)
  have HA0 := Lib.hid hA0
  have HGW := Lib.hid (fun (S : List UInt8) X (hX : Ext w X) => width_any ⟨S.toArray⟩ X (HENV.out.ext hX))
  clear h hv hL hz hA0
  go_enter Tryz.func185, Tryz.ntmps185
  go_wp2_with fail
  go_loopw [8, 9, 24] (fun _ _ s24 w' => SuW w w.heap.size ws s24 w') (fun _ _ s24 _ => toM n s24)
  case atStart => exact ⟨0, by omega, rfl, (Ext.refl w).alloc _, by have := HA0.out; rw [HL.out] at this; simpa using this⟩
  case round =>
    obtain ⟨i, hi, rfl, hx, ha⟩ := hrel
    have HX := Lib.hid hx
    have HA := Lib.hid ha
    clear hx ha HA0
    by_cases hlt : i < n
    case neg => 
      obtain rfl : n = i := by have := HL.out; omega
      have hni : ¬ ((n : Int) < (n : Int)) := by omega
      have HA2 := Lib.hid (show Arr wr w.heap.size (wdsL ws) by
        have h1 := HA.out
        rw [HL.out, Nat.sub_self, List.replicate_zero, List.append_nil, List.take_of_length_le (by unfold wdsL; rw [List.length_map]; exact Nat.le_refl _)] at h1
        exact h1)
      have HLW := Lib.hid (show (wdsL ws).length = n by unfold wdsL; rw [List.length_map]; exact HL.out.symm)
      have hrw := HA2.out.row (fun _ => True) trivial
      rw [HLW.out] at hrw
      have HEN := Lib.hid (ends_any (fun _ => True) wr _ n n (wdsL ws) m hrw HV.out.wdr hn hm0 hm)
      have hlo := lens_ok (m := m) hm0 HV.out.wdr.wds
      rw [HLW.out] at hlo
      obtain ⟨ls, hls⟩ : ∃ ls, lens (wdsL ws) m = ls := ⟨_, rfl⟩
      simp only [hls] at HEN hlo
      have HLS := Lib.hid hls
      have HLO := Lib.hid hlo
      have hL5 : ls.length ≤ 500 := by have := len_le_sum ls hlo.1; omega
      obtain ⟨ZL, hzl, hmkl⟩ := mkLines ls.length (by omega) (ls.length : Int) rfl
      have HZL := Lib.hid hzl
      clear hrw hls hlo hzl
      go_wp2_with (first | (go_at_call 220; refine HEN.out.mono ?_; rintro e w2 ⟨Ae, ce, rfl, hoe, hx2⟩; have HOE := Lib.hid hoe; have HX2 := Lib.hid hx2; clear hoe hx2))
      obtain ⟨w3, hw3⟩ : ∃ w3, w2.alloc (.cells ZL 86) = w3 := ⟨_, rfl⟩
      rw [hw3]
      obtain ⟨g, hg⟩ : ∃ g, w2.heap.size = g := ⟨_, rfl⟩
      rw [hg]
      have HX3 := Lib.hid (show Ext w2 w3 by rw [← hw3]; exact (Ext.refl w2).alloc _)
      have HXW := Lib.hid (HX.out.trans (HX2.out.trans HX3.out))
      have hwg : w.heap.size < g := by rw [← hg]; exact Nat.lt_of_lt_of_le HA2.out.lt HX2.out.lt
      have hg3 : g < w3.heap.size := by rw [← hw3, World.size_alloc, hg]; omega
      have HO3 := Lib.hid (HZL.out w3 g w (fun j => w.heap.size ≤ j) (by rw [← hw3, ← hg]; exact heap_alloc_new w2 _) (Nat.le_of_lt hwg))
      have HRE := Lib.hid (show kInt.row w3 (fun j => j ≠ g) Ae ls.length (cum 0 ls) by
        obtain ⟨A9, c9, e9, _, h9⟩ := own_rowN (Q := fun j => j ≠ g) HOE.out (fun j _ hj => by omega) (fun j _ hj => by omega)
        injection e9 with e9 e10 e11
        subst e9
        rw [cum_len] at h9
        exact Lay.row_ext h9 HX3.out)
      have HRW := Lib.hid (show kInt.row w3 (fun j => j ≠ g) (some ⟨w.heap.size, 0, none⟩) n (wdsL ws) by
        have h9 := (HA2.out.ext (HX2.out.trans HX3.out)).row (fun j => j ≠ g) (by omega)
        rwa [HLW.out] at h9)
      have HRS := Lib.hid (show kWd.row w3 (fun j => j ≠ g) A n ws from Lay.row_ext (Lay.row_mono HR.out fun j _ hj => by omega) HXW.out)
      have HLN := Lib.hid (show (setP ws first m).length = ls.length by rw [setP_lens]; exact congrArg List.length HLS.out)
      have HAT := Lib.hid (fun i l (h : ls[i]? = some l) => show (setP ws first m)[i]? = some (⟨first + ((ls.take i).sum : Nat), first + (((ls.take i).sum + l : Nat) : Int), gapsP (((ws.drop (ls.take i).sum).take l).map fun w => wid w.s) m (decide (i + 1 = ls.length)), ntsOf ((ws.drop (ls.take i).sum).take l)⟩ : Ln) by
        have h9 : lens (ws.map fun w => wid w.s) m = ls := HLS.out
        unfold setP
        rw [h9]
        exact linesGo_at m ls ws first i l h)
      obtain ⟨LN, hLN⟩ : ∃ LN, setP ws first m = LN := ⟨_, rfl⟩
      rw [hLN] at HLN HAT
      have HLE := Lib.hid hLN
      clear hw3 hLN hmkl hmk hni
      go_loopw [13, 47] (fun s13 s47 w' => SuL w3 w g ls LN s13 s47 w') (fun _ s47 _ => toM ls.length s47)
      case atStart => exact ⟨0, 0, by omega, rfl, rfl, rfl, Mv.refl _ _, by simpa using HO3.out⟩
      case round =>
        obtain ⟨i, F, hi, rfl, rfl, hF, hmv, ho⟩ := hrel
        have HMV := Lib.hid hmv
        have HO := Lib.hid ho
        have HF := Lib.hid hF
        clear hmv ho hF HO3
        by_cases hlt2 : i < ls.length
        case neg =>
          obtain rfl : ls.length = i := by omega
          have hni : ¬ ((ls.length : Int) < (ls.length : Int)) := by omega
          have HO5 := Lib.hid HO.out
          rw [Nat.sub_self, List.replicate_zero, List.append_nil, List.take_of_length_le (by rw [HLN.out]; exact Nat.le_refl _)] at HO5
          go_wp2_with fail
          go_ret
          rw [HLE.out]
          exact ⟨_, _, by rw [HLN.out]; rfl, Nat.le_of_eq HLN.out, by rw [HLN.out]; exact HO5.out, HMV.out.ext w (Nat.le_of_lt hwg) HXW.out⟩
        have hI2 : (i : Int) < (ls.length : Int) := by omega
        obtain ⟨l, hl⟩ : ∃ l, ls[i]? = some l := ⟨_, List.getElem?_eq_getElem hlt2⟩
        have hl1 := HLO.out.1 l (List.mem_of_getElem? hl)
        have hFl := sum_take_le ls hl
        rw [HLO.out.2, ← HF.out] at hFl
        have hce := cum_at ls 0 i l hl
        rw [← HF.out, Int.zero_add] at hce
        obtain ⟨be, oe, rfl, hbe, _, hcell⟩ := int_at (Lay.row_keep HRE.out HMV.out.size fun j hj hl => HMV.out.keep j hj hl) hce
        obtain ⟨T, hT⟩ : ∃ T, F + l = T := ⟨_, rfl⟩
        rw [hT] at hFl hcell
        have hT1 : F < T := by omega
        have hT2 : (F : Int) < (T : Int) := by omega
        have hT3 : (T : Int) ≤ (n : Int) := by omega
        have hTc : (T : Int) ≤ (c : Int) := by omega
        have hn5 : (n : Int) ≤ 500 := by omega
        have HLI := Lib.hid hl
        have HT := Lib.hid hT
        clear hl hce hT
        have hTF : T - F = l := by have := HT.out; omega
        obtain ⟨b0, off, cs0, rfl, hb00, hb0g, _, _⟩ := Lay.row_at (Lay.row_keep HRS.out HMV.out.size fun j hj hl => HMV.out.keep j hj hl) (show ws[F]? = some (ws[F]'(by have := HL.out; omega)) from List.getElem?_eq_getElem _)
        obtain ⟨lb, hlb⟩ : ∃ lb, ((i : Int) == (ls.length : Int) - 1) = lb := ⟨_, rfl⟩
        have HLB := Lib.hid (show lb = decide (i + 1 = ls.length) by
          rw [← hlb]
          by_cases h9 : i + 1 = ls.length
          · rw [decide_eq_true h9, beq_iff_eq]; omega
          · rw [decide_eq_false h9, beq_eq_false_iff_ne]; omega)
        have HGP := Lib.hid (fun X (hX : Mv g w3 X) => gaps_any (fun j => j ≠ g) X (some ⟨w.heap.size, F, none⟩) l l (((wdsL ws).drop F).take l) m lb (by
          have h9 := Lay.row_take (Lay.row_drop (Lay.row_keep HRW.out hX.size fun j hj hl => hX.keep j hj hl) F) l (by omega)
          rwa [show 0 + F * kInt.sz = F by rw [show kInt.sz = 1 from rfl]; omega] at h9) (fun x hx => HV.out.wdr.wds x (List.mem_of_mem_drop (List.mem_of_mem_take hx))) (by omega) (by omega) hm)
        obtain ⟨GP, hGP⟩ : ∃ GP, gapsP (((wdsL ws).drop F).take l) m lb = GP := ⟨_, rfl⟩
        rw [hGP] at HGP
        have HGE := Lib.hid hGP
        have hgw : g < wr.heap.size := Nat.lt_of_lt_of_le hg3 HMV.out.size
        clear hGP
        go_wp2_with (first | (go_at_call 221; refine (HGP.out _ HMV.out).mono ?_; rintro e w5 ⟨Ag, cg, rfl, hog, hx5⟩; have HOG := Lib.hid hog; have HX5 := Lib.hid hx5; clear hog hx5))
        obtain ⟨w4, hw4⟩ : ∃ w4, w5.alloc (.cells #[.int .i64 (first + F), .int .i64 (first + T), .slice Ag GP.length cg, .slice none 0 0] 86) = w4 := ⟨_, rfl⟩
        rw [hw4]
        obtain ⟨bl, hbl⟩ : ∃ bl, w5.heap.size = bl := ⟨_, rfl⟩
        rw [hbl]
        obtain ⟨p, hp⟩ : ∃ p, (ws.drop F).take l = p := ⟨_, rfl⟩
        have hbl4 : bl < w4.heap.size := by rw [← hw4, World.size_alloc, hbl]; omega
        have hwo : wr.heap.size ≤ bl := by rw [← hbl]; exact HX5.out.lt
        have hpl : p.length = l := by rw [← hp, List.length_take, List.length_drop]; have := HL.out; omega
        have HX4 := Lib.hid (show Ext wr w4 by rw [← hw4]; exact HX5.out.alloc _)
        have HB4 := Lib.hid (show w4.heap[bl]? = some (.cells #[.int .i64 (first + F), .int .i64 (first + T), .slice Ag GP.length cg, .slice none 0 0] 86 (0, 0)) by rw [← hw4, ← hbl]; exact heap_alloc_new w5 _)
        have HX54 := Lib.hid (show Ext w5 w4 by rw [← hw4]; exact (Ext.refl w5).alloc _)
        have HM4 := Lib.hid (HMV.out.trans (Mv.of_ext HX4.out))
        have HRS4 := Lib.hid (show kWd.row w4 (fun j => j < bl) (some ⟨b0, off + F * 4, none⟩) l p by
          have h9 := Lay.row_take (Lay.row_drop (Lay.row_keep HRS.out HMV.out.size fun j hj hl => HMV.out.keep j hj hl) F) l (by omega)
          rw [kWd_sz, hp] at h9
          exact Lay.row_ext (Lay.row_mono h9 fun j _ hj => by omega) HX4.out)
        have HP := Lib.hid hp
        clear hw4 hp
        go_loopw [18, 76] (fun _ s76 w' => SuN w4 bl (first + F) (first + T) (.slice Ag GP.length cg) p s76 w') (fun _ s76 _ => toM l s76)
        case atStart => exact ⟨0, _, by omega, rfl, Mv.refl _ _, HB4.out, Lay.own_nil _ _ _ _ _⟩
        case round =>
          obtain ⟨j, nv, hj, rfl, hmv2, hbx, hon⟩ := hrel
          have HM2 := Lib.hid hmv2
          have HBX := Lib.hid hbx
          have HON := Lib.hid hon
          have k0 := cell_of hbx (i := 0) (u := .int .i64 (first + F)) rfl
          have k1 := cell_of hbx (i := 1) (u := .int .i64 (first + T)) rfl
          have k2 := cell_of hbx (i := 2) (u := .slice Ag GP.length cg) rfl
          have k3 := cell_of hbx (i := 3) (u := nv) rfl
          have kf := frozen_of hbx 3
          clear hmv2 hbx hon
          by_cases hjl : j < l
          case neg =>
            obtain rfl : l = j := by omega
            have hnj : ¬ ((l : Int) < (l : Int)) := by omega
            have HM5 := Lib.hid (HM4.out.mv HM2.out (Nat.le_trans HMV.out.size hwo))
            have HOI := Lib.hid (Lay.own_keep HO.out (Nat.le_trans HX4.out.lt HM2.out.size) fun q _ hq => (HM2.out.keep q (by omega) (Nat.lt_of_lt_of_le hq HX4.out.lt)).trans (HX4.out.block q hq))
            obtain ⟨cur, hcur, hcs⟩ := own_block HOI.out
            rw [kLn_sz, List.length_append, List.length_take, List.length_replicate, HLN.out] at hcs
            have HCU := Lib.hid hcur
            obtain ⟨v0, g0⟩ : ∃ v, wr.cell? ⟨g, i * 4, none⟩ = some v := ⟨_, cell_of hcur (Array.getElem?_eq_getElem (by omega))⟩
            obtain ⟨v1, g1⟩ : ∃ v, wr.cell? ⟨g, i * 4 + 1, none⟩ = some v := ⟨_, cell_of hcur (Array.getElem?_eq_getElem (by omega))⟩
            obtain ⟨v2, g2⟩ : ∃ v, wr.cell? ⟨g, i * 4 + 2, none⟩ = some v := ⟨_, cell_of hcur (Array.getElem?_eq_getElem (by omega))⟩
            obtain ⟨v3, g3⟩ : ∃ v, wr.cell? ⟨g, i * 4 + 3, none⟩ = some v := ⟨_, cell_of hcur (Array.getElem?_eq_getElem (by omega))⟩
            have q0 := frozen_of hcur (i * 4)
            have q1 := frozen_of hcur (i * 4 + 1)
            have q2 := frozen_of hcur (i * 4 + 2)
            have q3 := frozen_of hcur (i * 4 + 3)
            obtain ⟨An, cn, rfl, hcn, hrn⟩ := own_rowN (P := fun q => g < q) (Q := fun q => g < q) (own_int HON.out) (fun q hq _ => hq) (fun q hq _ => by omega)
            have HRN := Lib.hid hrn
            have HXL := Lib.hid (show LN[i]? = some (⟨first + F, first + T, GP, ntsOf (p.take l)⟩ : Ln) by
              have h9 := HAT.out i l HLI.out
              have h8 := HGE.out
              unfold wdsL at h8
              rw [← List.map_drop, ← List.map_take, HP.out, HLB.out] at h8
              rw [← HF.out, HT.out, HP.out, h8] at h9
              rw [h9, List.take_of_length_le (by omega)])
            have HRG := Lib.hid (show kInt.row wr (fun q => g < q) Ag GP.length GP by
              obtain ⟨A9, c9, e9, _, h9⟩ := own_rowN (P := fun q => g < q ∧ q < bl) (Q := fun q => g < q ∧ q < bl) (own_int HOG.out) (fun q hq _ => hq) (fun q hq hq2 => ⟨by omega, by omega⟩)
              injection e9 with e9 e10 e11
              subst e9
              have h7 := Lay.row_ext h9 (show Ext w5 w4 from HX54.out)
              exact Lay.row_mono (Lay.row_keep h7 HM2.out.size fun q hq hl => HM2.out.keep q (by omega) hl) fun q hq _ => hq.1)
            have hgc : GP.length ≤ cg := by
              obtain ⟨A9, c9, e9, h8, _⟩ := Lay.own_row HOG.out
              injection e9 with _ _ e11
              omega
            clear hcur hcs hrn
            go_wp2_with fail
            go_roundw
            case rel =>
              refine ⟨i + 1, T, by omega, by simp, rfl, by rw [sum_take_succ ls HLI.out, ← HF.out, HT.out], (((HM5.out.trans (Mv.set _)).trans (Mv.set _)).trans (Mv.set _)).trans (Mv.set _), ?_⟩
              have h9 := Lay.own_put4 kLn_sz HOI.out (i := i) (by rw [List.length_append, List.length_take, List.length_replicate, HLN.out]; omega) (x := ⟨first + F, first + T, GP, ntsOf (p.take l)⟩) (kLn_rep.2 ⟨Ag, _, cg, An, _, cn, rfl, hgc, hcn, Lay.row_mono HRG.out fun q hq _ => ⟨by omega, by simp [Value.ownBlock]; omega⟩, Lay.row_mono HRN.out fun q hq _ => ⟨by omega, by simp [Value.ownBlock]; omega⟩⟩)
              rwa [take_setL _ _ _ _ _ (by omega) HXL.out] at h9
            case measure => simp only [toM]; omega
          have hJ : (j : Int) < (l : Int) := by omega
          obtain ⟨x, hxj⟩ : ∃ x, p[j]? = some x := ⟨_, List.getElem?_eq_getElem (by omega)⟩
          obtain ⟨b9, o9, cs9, e9, hb9, hb9l, hrep, hcell9⟩ := Lay.row_at (Lay.row_keep HRS4.out HM2.out.size fun q hq hl => HM2.out.keep q (by omega) hl) hxj
          injection e9 with e9
          injection e9 with e9 e10
          subst e9 e10
          rw [kWd_rep] at hrep
          subst hrep
          have c0 := hcell9 0 _ rfl
          have c1 := hcell9 1 _ rfl
          have c2 := hcell9 2 _ rfl
          have c3' := hcell9 3 _ rfl
          rw [kWd_sz] at c0 c1 c2 c3'
          rw [Nat.add_zero] at c0
          have hxv := (HV.out x (List.mem_of_mem_drop (List.mem_of_mem_take (by rw [HP.out]; exact List.mem_of_getElem? hxj)))).2
          have HNS := Lib.hid (ntsOf_succ p hxj)
          have hnl := ntsOf_len (p.take j)
          rw [List.length_take] at hnl
          have hblr : bl < wr.heap.size := Nat.lt_of_lt_of_le hbl4 HM2.out.size
          obtain ⟨x1, x2, x3, x4⟩ := x
          clear hcell9 hxj
          simp only at c0 c1 c2 c3' hxv HNS
          by_cases hx4 : x4 = 0
          · subst hx4
            go_wp2_with fail
            go_roundw
            case rel =>
              refine ⟨j + 1, nv, by omega, by simp, HM2.out.trans (Mv.of_ext ((Ext.refl _).alloc _)), (Below.heap_alloc _ _ _ hblr).trans HBX.out, ?_⟩
              rw [HNS.out, if_neg (by simp), List.append_nil]
              exact Lay.own_ext HON.out ((Ext.refl _).alloc _)
            case measure => simp only [toM]; omega
          · rw [if_pos hx4] at HNS
            obtain ⟨X, hX⟩ : ∃ X, wr.alloc (.cells #[.string ⟨x1.toArray⟩, .string ⟨x2.toArray⟩, .int .i64 x3, .int .i64 x4] 60) = X := ⟨_, rfl⟩
            have hxX : Ext wr X := by rw [← hX]; exact (Ext.refl _).alloc _
            have hMX := HM2.out.trans (Mv.of_ext hxX)
            have hlto := Lay.own_lt HON.out
            obtain ⟨A9, c9, w9, hrun, ho9, hb9', hk9, hs9, hn9⟩ := own_app1 (k := kInt) (Pr := Tryz.prog) (t := 22) Tryz.underlying22 info3 rfl (by decide) (by omega) (Lay.own_ext HON.out hxX) hMX.size (cs := #[.int .i64 (x4 - 1)]) (T := 3) (x := x4 - 1) rfl 1 (by omega)
            have hM9 : Mv bl w4 w9 := hMX.app (fun q hq => hk9 q (Nat.lt_of_lt_of_le hq hMX.size) fun e => by have := (hlto q e).1; omega) hs9 fun B hB => hb9' B hB
            have hbX : X.heap[bl]? = some (.cells #[.int .i64 (first + F), .int .i64 (first + T), .slice Ag GP.length cg, nv] 86 (0, 0)) := (hxX.block bl hblr).trans HBX.out
            have hb99 : w9.heap[bl]? = some (.cells #[.int .i64 (first + F), .int .i64 (first + T), .slice Ag GP.length cg, nv] 86 (0, 0)) := (hk9 bl (lt_of_block hbX) fun e => by have := (hlto bl e).1; omega).trans hbX
            have hc93 := cell_of hb99 (i := 3) (u := nv) rfl
            have hf93 := frozen_of hb99 3
            have hown9 : kInt.own 3 (w9.setCell ⟨bl, 3, none⟩ (.slice A9 ((ntsOf (p.take j)).length + 1) c9)) w4.heap.size (fun _ => True) (.slice A9 ((ntsOf (p.take j)).length + 1) c9) (ntsOf (p.take (j + 1))) := by
              rw [HNS.out]
              exact own_int (P := fun _ => False) (Lay.own_keep (own_int ho9) (by simp) fun q hq hl => by
                rcases hq with hq | hq
                · exact hq.elim
                · have := (Lay.own_lt ho9 q hq).1
                  exact heap_setCell_other _ ⟨bl, 3, none⟩ q _ (by show q ≠ bl; omega))
            have hbl9 : (w9.setCell ⟨bl, 3, none⟩ (.slice A9 ((ntsOf (p.take j)).length + 1) c9)).heap[bl]? = some (.cells #[.int .i64 (first + F), .int .i64 (first + T), .slice Ag GP.length cg, .slice A9 ((ntsOf (p.take j)).length + 1) c9] 86 (0, 0)) := by
              rw [heap_setCell_same _ bl 3 _ 86 _ hb99]
              rfl
            have HREL := Lib.hid (show SuN w4 bl (first + F) (first + T) (.slice Ag GP.length cg) p (.int .i64 ((j : Int) + 1)) (w9.setCell ⟨bl, 3, none⟩ (.slice A9 ((ntsOf (p.take j)).length + 1) c9)) from ⟨j + 1, _, by omega, by simp, hM9.trans (Mv.set _), hbl9, hown9⟩)
            have HRUN := Lib.hid hrun
            clear hlto ho9 hb9' hk9 hn9 hM9 hbX hb99 hown9 hbl9 hrun
            rw [← hX, World.size_alloc] at HRUN
            clear hX hxX hMX hs9
            go_wp2_with (first | (at_builtin; refine wpList_append_run (s := .tmp 84) (x := .tmp 88) HRUN.out rfl rfl rfl rfl rfl ?_))
            go_roundw
            case rel => exact HREL.out
            case measure => simp only [toM]; omega
    have hI : (i : Int) < (n : Int) := by omega
    obtain ⟨x, hxi⟩ : ∃ x, ws[i]? = some x := ⟨_, List.getElem?_eq_getElem (by have := HL.out; omega)⟩
    obtain ⟨b0, off, cs, rfl, hb0, _, hrep, hcell⟩ := Lay.row_at (Lay.row_ext HR.out HX.out) hxi
    rw [kWd_rep] at hrep
    subst hrep
    have c0 := hcell 0 _ rfl
    have c1 := hcell 1 _ rfl
    have c2 := hcell 2 _ rfl
    have c3' := hcell 3 _ rfl
    rw [kWd_sz] at c0 c1 c2 c3'
    rw [Nat.add_zero] at c0
    have hwb := wid_bd x.s
    obtain ⟨v, hvx⟩ : ∃ v, wid x.s = v := ⟨_, rfl⟩
    have HWX := Lib.hid (fun X (hX : Ext w X) => HGW.out x.s X hX)
    simp only [hvx] at HWX
    have hfz := HA.out.frozen i
    have hbw : w.heap.size < wr.heap.size := HA.out.lt
    have hce := HA.out.cell (i := i) (x := 0) (by rw [List.getElem?_append_right (by rw [List.length_take]; omega), List.getElem?_replicate, List.length_take, if_pos (by have := HL.out; unfold wdsL; rw [List.length_map]; omega)])
    have HXI := Lib.hid hxi
    have HVX := Lib.hid hvx
    obtain ⟨x1, x2, x3, x4⟩ := x
    clear hcell hxi hvx
    simp only at c0 c1 c2 c3' HWX HVX
    go_wp2_with (first | (go_at_call 219; refine (HWX.out _ (HX.out.alloc _)).mono ?_; rintro e w5 ⟨rfl, hw5⟩; obtain rfl := hw5.symm))
    go_roundw
    case rel =>
      refine ⟨i + 1, by have := HL.out; omega, by simp, (HX.out.setCell (p := ⟨w.heap.size, i, none⟩) (Nat.le_refl _) _).alloc _, Arr.alloc ?_ _⟩
      have h1 := HA.out.set i v
      rwa [take_set _ _ _ _ (by have := HL.out; omega) (by unfold wdsL; rw [List.getElem?_map, HXI.out]; exact congrArg some HVX.out)] at h1
    case measure => simp only [toM]; omega
end
section

theorem chkWs_val (b : Bool) (nn : Int) : ∀ (p : List Wd) (k k' : Int), chkWs b nn p k = .inr k' → ∀ w ∈ p, validW w.s = true := by
  intro p
  induction p with
  | nil => intro k k' _ w hw; simp at hw
  | cons a r ih =>
    intro k k' h w hw
    simp only [chkWs] at h
    split at h
    · cases h
    · next h1 =>
      simp only [Bool.or_eq_true, Bool.not_eq_true', not_or, Bool.not_eq_false] at h1
      split at h
      · cases h
      · rcases List.mem_cons.1 hw with rfl | hw
        · exact h1.1
        · split at h
          · split at h
            · cases h
            · exact ih _ _ h w hw
          · exact ih _ _ h w hw
theorem chkPs_val (nn : Int) : ∀ (ps : List (List Wd)) (b : Nat) (k k' : Int), chkPs nn b ps k = .inr k' → ∀ p ∈ ps, ∀ w ∈ p, validW w.s = true := by
  intro ps
  induction ps with
  | nil => intro b k k' _ p hp; simp at hp
  | cons a r ih =>
    intro b k k' h p hp
    simp only [chkPs] at h
    split at h
    · cases h
    · next k1 hk =>
      rcases List.mem_cons.1 hp with rfl | hp
      · exact chkWs_val _ _ _ _ _ hk
      · exact ih _ _ _ h p hp
/-- A text that has been checked. -/
structure ChkT (t : Tx) : Prop where
  np : t.paras.length ≤ 100
  nn : t.notes.length ≤ 100
  len : ∀ p ∈ t.paras ++ t.notes, 1 ≤ p.length ∧ p.length ≤ 500
  ok : ∀ p ∈ t.paras ++ t.notes, ∀ w ∈ p, validW w.s = true
theorem chkT_val {t : Tx} (h : chkT t = 0) : ChkT t := by
  unfold chkT at h
  split at h
  · cases h
  · next h1 =>
    split at h
    · cases h
    · next h2 =>
      split at h
      · next e he =>
        exfalso
        subst h
        have : ∀ (ps : List (List Wd)) (b : Nat) (k : Int), chkPs t.notes.length b ps k ≠ .inl 0 := by
          intro ps
          induction ps with
          | nil => intro b k h; simp [chkPs] at h
          | cons a r ih =>
            intro b k h
            simp only [chkPs] at h
            split at h
            · next e' he' =>
              injection h with h
              subst h
              have : ∀ (p : List Wd) (bb : Bool) (k : Int), chkWs bb t.notes.length p k ≠ .inl 0 := by
                intro p
                induction p with
                | nil => intro bb k h; simp [chkWs] at h
                | cons w r ih2 =>
                  intro bb k h
                  simp only [chkWs] at h
                  split at h
                  · injection h with h; cases h
                  · split at h
                    · injection h with h; cases h
                    · split at h
                      · split at h
                        · injection h with h; cases h
                        · exact ih2 _ _ h
                      · exact ih2 _ _ h
              exact this _ _ _ he'
            · exact ih _ _ h
        exact this _ _ _ he
      · next k hk =>
        simp only [not_or] at h1
        have h3 : ∀ p ∈ t.paras ++ t.notes, ¬ (500 < p.length) := fun p hp hc => h1.2.2 (List.any_eq_true.2 ⟨p, hp, decide_eq_true hc⟩)
        have h4 : ∀ p ∈ t.paras ++ t.notes, ¬ (p.length = 0) := fun p hp hc => h2 (List.any_eq_true.2 ⟨p, hp, decide_eq_true hc⟩)
        exact ⟨by omega, by omega, fun p hp => by have := h3 p hp; have := h4 p hp; omega, fun p hp => chkPs_val _ _ _ _ _ hk p hp⟩
end
end Go.Proofs.YtdbnddmncbjobaaGreatDoor