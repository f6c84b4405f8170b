/- The law's words and place: walked. -/
import Derived.Test.YtdbnddmncbjobaaGreatDoorMh
import Derived.Deep.RegionHeld3
import Derived.Deep.RegionLaw
import Derived.StillTailTactics
import Derived.Test.YtdbnddmncbjobaaGreatDoorMa
import Derived.Test.YtdbnddmncbjobaaGreatDoorMg
import Derived.Test.YtdbnddmncbjobaaGreatDoorMd
import Derived.Test.YtdbnddmncbjobaaGreatDoorMe
namespace Go.Proofs.YtdbnddmncbjobaaGreatDoor
open Go Go.RowKit

def WoR (n : Nat) (b : Nat) (s3 s4 : Value) : Prop := ∃ i s : Nat, i ≤ n ∧ s ≤ b + 1000 * i ∧ s3 = .int .i64 s ∧ s4 = .int .i64 i
set_option maxHeartbeats 4000000 in
set_option maxRecDepth 100000 in
theorem words_any (P : Nat → Prop) (w : World) (A A' : Option Addr) (n n' c c' : Nat) (t : Tx) (h1 : kWs.row w P A n t.paras) (h2 : kWs.row w P A' n' t.notes) (ht : OkT t) :
    Calls Tryz.prog 88 #[.agg #[.slice A n c, .slice A' n' c']] w (fun z w' => ∃ k : Nat, k ≤ 10000 ∧ z = .returned (.int .i64 k) ∧ Ext w w') := by
  have hn : n ≤ 4 := by have := Lay.row_len h1; have := ht.np; omega
  have hn' : n' ≤ 3 := by have := Lay.row_len h2; have := ht.nn; omega
  obtain ⟨w1, hw1⟩ : ∃ w1, w.alloc (.cells #[.slice A n c, .slice A' n' c'] 53) = w1 := ⟨_, rfl⟩
  have hx : Ext w w1 := by rw [← hw1]; exact (Ext.refl w).alloc _
  have hB : w1.heap[w.heap.size]? = some (.cells #[.slice A n c, .slice A' n' c'] 53 (0, 0)) := by rw [← hw1]; exact heap_alloc_new w _
  have b0 := cell_of hB (i := 0) (u := .slice A n c) rfl
  have b1 := cell_of hB (i := 1) (u := .slice A' n' c') rfl
  have HR1 := Lib.hid (Lay.row_ext h1 hx)
  have HR2 := Lib.hid (Lay.row_ext h2 hx)
  have HX := Lib.hid hx
  have HT := Lib.hid ht
  have HL1 := Lib.hid (Lay.row_len h1)
  have HL2 := Lib.hid (Lay.row_len h2)
  clear h1 h2 hx ht hB
  go_enter Tryz.func88, Tryz.ntmps88
  go_upto_region 1 with (fail)
  clear hw1
  go_wp2_with fail
  go_loop [3, 4] (fun s3 s4 => WoR n 0 s3 s4) (fun _ s4 => toM n s4)
  case atStart => exact ⟨0, 0, by omega, by omega, rfl, rfl⟩
  case round =>
    obtain ⟨i, s, hi, hs, rfl, rfl⟩ := hrel
    by_cases hlt : i < n
    case pos =>
      have hI : (i : Int) < (n : Int) := by omega
      obtain ⟨p, hp⟩ : ∃ p, t.paras[i]? = some p := ⟨_, List.getElem?_eq_getElem (by have := HL1.out; omega)⟩
      obtain ⟨bb, off, cs, rfl, hb0, _, hrep, hcell⟩ := Lay.row_at HR1.out hp
      obtain ⟨Ap, cp, rfl, hcp, hrp⟩ := kWs_rep.1 hrep
      have hce := hcell 0 _ rfl
      rw [kWs_sz, Nat.mul_one, Nat.add_zero] at hce
      have hpl := (HT.out.par.len p (List.mem_of_getElem? hp)).2
      obtain ⟨q, hq⟩ : ∃ q, p.length = q := ⟨_, rfl⟩
      rw [hq] at hce hpl
      clear hq hp hrep hrp hcell hcp
      go_wp2_with fail
      exact ⟨⟨i + 1, s + q, by omega, by omega, by simp, rfl⟩, by simp only [toM]; omega⟩
    have hni : ¬ (i : Int) < (n : Int) := by omega
    have hs4 : s ≤ 4000 := by omega
    clear hs
    go_wp2_with fail
    go_loop [3, 5] (fun s3 s5 => WoR n' 4000 s3 s5) (fun _ s5 => toM n' s5)
    case atStart => exact ⟨0, s, by omega, by omega, rfl, rfl⟩
    case round =>
      obtain ⟨j, s, hj, hs, rfl, rfl⟩ := hrel
      by_cases hlt2 : j < n'
      case pos =>
        have hI : (j : Int) < (n' : Int) := by omega
        obtain ⟨p, hp⟩ : ∃ p, t.notes[j]? = some p := ⟨_, List.getElem?_eq_getElem (by have := HL2.out; omega)⟩
        obtain ⟨bb, off, cs, rfl, hb0, _, hrep, hcell⟩ := Lay.row_at HR2.out hp
        obtain ⟨Ap, cp, rfl, hcp, hrp⟩ := kWs_rep.1 hrep
        have hce := hcell 0 _ rfl
        rw [kWs_sz, Nat.mul_one, Nat.add_zero] at hce
        have hpl := (HT.out.len p (List.mem_of_getElem? hp)).2
        obtain ⟨q, hq⟩ : ∃ q, p.length = q := ⟨_, rfl⟩
        rw [hq] at hce hpl
        clear hq hp hrep hrp hcell hcp
        go_wp2_with fail
        exact ⟨⟨j + 1, s + q, by omega, by omega, by simp, rfl⟩, by simp only [toM]; omega⟩
      have hnj : ¬ (j : Int) < (n' : Int) := by omega
      go_wp2_with fail
      go_ret
      exact ⟨s, by omega, rfl, HX.out⟩
def PcC (w1 : World) (ent : Int) (fz : Bool) (vV vT : Value) (s11 : Value) (wx : World) : Prop := ∃ z, s11 = .pointer (some ⟨z, 0, none⟩) ∧ wx.heap[z]? = some (.cells #[.int .i64 ent, .bool fz, vV, vT] 46 (0, 0)) ∧ Ext w1 wx
def PlaceGet (w : World) (z : Ending) (w' : World) : Prop := ∃ e x y : Int, z = .returned (.tuple #[.int .i64 e, .int .i64 x, .int .i64 y]) ∧ Ext w w'
set_option maxHeartbeats 4000000 in
set_option maxRecDepth 100000 in
theorem place_any (P : Nat → Prop) (w : World) (b : Bk) (a v wd : Int) (A : Option Addr) (N c : Nat) (hb : OkB b 100 100) (hr : kSe.row w P A N b.secs) (ha : -9223372036854775808 ≤ a ∧ a ≤ 9223372036854775807) (hv : -9223372036854775808 ≤ v ∧ v ≤ 9223372036854775807) (hw : -9223372036854775808 ≤ wd ∧ wd ≤ 9223372036854775807) :
    Calls Tryz.prog 40 #[.agg #[.int .i64 b.ms, .int .i64 b.ht, .slice A N c], .int .i64 a, .int .i64 v, .int .i64 wd] w (PlaceGet w) := by
  have hN : N ≤ 100 := by have := Lay.row_len hr; have := hb.n; omega
  have HA := Lib.hid (fun X (k : Int) (h1 : 1 ≤ k) (h2 : k ≤ 1000000000) => around_fn a k X ha.1 ha.2 h1 h2)
  have HV := Lib.hid (fun X (k : Int) (h1 : 1 ≤ k) (h2 : k ≤ 1000000000) => around_fn v k X hv.1 hv.2 h1 h2)
  have HW := Lib.hid (fun X (k : Int) (h1 : 1 ≤ k) (h2 : k ≤ 1000000000) => around_fn wd k X hw.1 hw.2 h1 h2)
  obtain ⟨w1, hw1⟩ : ∃ w1, w.alloc (.cells #[.int .i64 b.ms, .int .i64 b.ht, .slice A N c] 27) = w1 := ⟨_, rfl⟩
  have hx : Ext w w1 := by rw [← hw1]; exact (Ext.refl w).alloc _
  have hB : w1.heap[w.heap.size]? = some (.cells #[.int .i64 b.ms, .int .i64 b.ht, .slice A N c] 27 (0, 0)) := by rw [← hw1]; exact heap_alloc_new w _
  have b2 := cell_of hB (i := 2) (u := .slice A N c) rfl
  have hbl : w.heap.size < w1.heap.size := lt_of_block hB
  have HX := Lib.hid hx
  have HL := Lib.hid (Lay.row_len hr)
  have HR := Lib.hid (Lay.row_ext hr hx)
  have HB := Lib.hid hb
  clear hx hB hr hb ha hv hw
  go_enter Tryz.func40, Tryz.ntmps40
  go_upto_region 1 with (fail)
  clear hw1
  obtain ⟨a9, ha9, ha9b⟩ := around_nat a 9 (by omega)
  have HA9 := Lib.hid (show Calls Tryz.prog 42 #[.int .i64 a, .int .i64 9] w1 (fun e w' => e = .returned (.int .i64 (a9 : Int)) ∧ w1 = w') from by rw [← ha9]; exact HA.out w1 9 (by omega) (by omega))
  clear ha9
  by_cases h0 : N = 0
  · have g0 : ((N : Int) == 0) = true := by simp [h0]
    have H0 := Lib.hid h0
    clear h0
    go_wp2_with fail
    refine bodyPost_ret (v := .tuple #[.int .i64 a, .int .i64 v, .int .i64 wd]) (by simp [results, Tryz.results40, go_sem, *]) rfl ?_
    exact ⟨_, _, _, rfl, HX.out⟩
  have g0 : ((N : Int) == 0) = false := by simp; omega
  by_cases h9 : a9 = 0
  · have g9 : ((a9 : Int) == 0) = true := by simp [h9]
    have H9 := Lib.hid h9
    clear h9
    go_wp2_with (first | (go_at_call 42; refine (HA9.out).mono ?_; rintro e w2 ⟨rfl, rfl⟩))
    refine bodyPost_ret (v := .tuple #[.int .i64 a, .int .i64 v, .int .i64 wd]) (by simp [results, Tryz.results40, go_sem, *]) rfl ?_
    exact ⟨_, _, _, rfl, HX.out⟩
  have g9 : ((a9 : Int) == 0) = false := by simp; omega
  obtain ⟨i, hi, hib⟩ := around_nat a N (by omega)
  have HAN := Lib.hid (fun X => show Calls Tryz.prog 42 #[.int .i64 a, .int .i64 (N : Int)] X (fun e w' => e = .returned (.int .i64 (i : Int)) ∧ X = w') from by rw [← hi]; exact HA.out X N (by omega) (by omega))
  clear hi
  have hI : (i : Int) < (N : Int) := by omega
  obtain ⟨x, hxi⟩ : ∃ x, b.secs[i]? = some x := ⟨_, List.getElem?_eq_getElem (by have := HL.out; omega)⟩
  obtain ⟨bs, os, cs, rfl, hbs, _, hrep, hcs⟩ := Lay.row_at HR.out hxi
  obtain ⟨A1, n1, c1, A2, n2, c2, rfl, hn1, hn2, hr1, hr2⟩ := kSe_rep.1 hrep
  have e0 := hcs 0 _ rfl
  have e1 := hcs 1 _ rfl
  have e2 := hcs 2 _ rfl
  have e3 := hcs 3 _ rfl
  rw [kSe_sz] at e0 e1 e2 e3
  rw [Nat.add_zero] at e0
  have HXI := Lib.hid (List.mem_of_getElem? hxi)
  have HR1 := Lib.hid hr1
  have HR2 := Lib.hid hr2
  clear hrep hcs hr1 hr2 hxi
  go_upto_region 3 with (first | (go_at_call 42; refine (HA9.out).mono ?_; rintro e w2 ⟨rfl, rfl⟩))
  have hz1 := heap_alloc_new w1 (.cells #[.int .i64 x.ent, .bool x.fz, .slice A1 n1 c1, .slice A2 n2 c2] 46)
  have HZ1 := Lib.hid hz1
  have HXD := Lib.hid (show Ext w1 (w1.alloc (.cells #[.int .i64 x.ent, .bool x.fz, .slice A1 n1 c1, .slice A2 n2 c2] 46)).drew from ((Ext.refl w1).alloc _).drew)
  clear hz1
  go_cut [11] (fun s11 wx => PcC w1 x.ent x.fz (.slice A1 n1 c1) (.slice A2 n2 c2) s11 wx)
  case first =>
    go_region_law (first
      | (go_simp; go_at_call 42; refine (HAN.out _).mono ?_; rintro e w2 ⟨rfl, rfl⟩; simp only []))
    all_goals
      go_wp2
      go_meet
      case rel => exact ⟨w1.heap.size, rfl, HZ1.out, HXD.out⟩
  case rest =>
    obtain ⟨z, rfl, hz, hxz⟩ := hcut
    have hl := HB.out.vs x HXI.out
    have e9 := Lay.row_len HR1.out
    have e8 := Lay.row_len HR2.out
    obtain rfl : n1 = n2 := by omega
    have hn11 : 1 ≤ n1 := by
      have h9 := hl.2.1
      have : x.vers.length ≠ 0 := fun e => h9 (List.eq_nil_of_length_eq_zero e)
      omega
    have hn10 : n1 ≤ 100 := by omega
    have HZL := Lib.hid (lt_of_block hz)
    have y0 := cell_of hz (i := 0) (u := .int .i64 x.ent) rfl
    have y2 := cell_of hz (i := 2) (u := .slice A1 n1 c1) rfl
    have y3 := cell_of hz (i := 3) (u := .slice A2 n1 c2) rfl
    obtain ⟨k, hk, hkb⟩ := around_nat v n1 (by omega)
    have emx : max (1 : Int) (n1 : Int) = (n1 : Int) := by omega
    have HAV := Lib.hid (fun X => show Calls Tryz.prog 42 #[.int .i64 v, .int .i64 (n1 : Int)] X (fun e w' => e = .returned (.int .i64 (k : Int)) ∧ X = w') from by rw [← hk]; exact HV.out X n1 (by omega) (by omega))
    clear hk hl e9 e8
    have hk1 : ¬ (n1 : Int) ≤ (k : Int) := by omega
    have gk1 : decide ((n1 : Int) ≤ (k : Int)) = false := by rw [decide_eq_false_iff_not]; omega
    have gk3 : decide (n1 ≤ k) = false := by rw [decide_eq_false_iff_not]; omega
    have hK1 : (k : Int) < (n1 : Int) := by omega
    obtain ⟨vk, hvk⟩ : ∃ vk, x.vers[k]? = some vk := ⟨_, List.getElem?_eq_getElem (by have := Lay.row_len HR1.out; omega)⟩
    obtain ⟨tk, htk⟩ : ∃ tk, x.texts[k]? = some tk := ⟨_, List.getElem?_eq_getElem (by have := Lay.row_len HR2.out; omega)⟩
    obtain ⟨bv, ov, cv, rfl, hbv, _, hrv, hcv⟩ := Lay.row_at (Lay.row_ext HR1.out hxz) hvk
    obtain ⟨bt, ot, ct, rfl, hbt, _, hrt, hct⟩ := Lay.row_at (Lay.row_ext HR2.out hxz) htk
    obtain rfl : cv = [.int .i64 vk] := hrv
    obtain ⟨A3, n3, c3, A4, n4, c4, rfl, _, _, hr3, hr4⟩ := kTx_rep.1 hrt
    have v0 := hcv 0 _ rfl
    rw [show kInt.sz = 1 from rfl, Nat.mul_one, Nat.add_zero] at v0
    have t0 := hct 0 _ rfl
    have t1 := hct 1 _ rfl
    rw [kTx_sz] at t0 t1
    rw [Nat.add_zero] at t0
    have HWO := Lib.hid (fun X (hX : Ext wc X) => words_any P X A3 A4 n3 n4 c3 c4 tk (Lay.row_ext hr3 hX) (Lay.row_ext hr4 hX) (HB.out.tx x HXI.out tk (List.mem_of_getElem? htk)))
    have HQ := Lib.hid (fun X (hX : Ext wc X) => (show X.cell? ⟨z, 0, none⟩ = some (.int .i64 x.ent) ∧ X.cell? ⟨z, 2, none⟩ = some (.slice (some ⟨bv, ov, none⟩) n1 c1) ∧ X.cell? ⟨z, 3, none⟩ = some (.slice (some ⟨bt, ot, none⟩) n1 c2) ∧ X.cell? ⟨bv, ov + k, none⟩ = some (.int .i64 vk) ∧ X.cell? ⟨bt, ot + k * 2, none⟩ = some (.slice A3 n3 c3) ∧ X.cell? ⟨bt, ot + k * 2 + 1, none⟩ = some (.slice A4 n4 c4) from by
      obtain ⟨q, _⟩ := hX.cells
      exact ⟨(q _ _ HZL.out).trans y0, (q _ _ HZL.out).trans y2, (q _ _ HZL.out).trans y3, (q _ _ hbv).trans v0, (q _ _ hbt).trans t0, (q _ _ hbt).trans t1⟩))
    have HXZ := Lib.hid (HX.out.trans hxz)
    clear hvk htk hcv hct hrt hr3 hr4 hz hxz HR1 HR2
    go_upto_region 7 with (first | (go_at_call 42; refine (HAV.out _).mono ?_; rintro e w2 ⟨rfl, rfl⟩))
    have hcur : Ext wc wc.drew := (Ext.refl _).drew
    go_region_held3 (fun W => W.cell? ⟨z, 0, none⟩ = some (.int .i64 x.ent) ∧ W.cell? ⟨z, 2, none⟩ = some (.slice (some ⟨bv, ov, none⟩) n1 c1) ∧ W.cell? ⟨z, 3, none⟩ = some (.slice (some ⟨bt, ot, none⟩) n1 c2) ∧ W.cell? ⟨bv, ov + k, none⟩ = some (.int .i64 vk) ∧ W.cell? ⟨bt, ot + k * 2, none⟩ = some (.slice A3 n3 c3) ∧ W.cell? ⟨bt, ot + k * 2 + 1, none⟩ = some (.slice A4 n4 c4)) (exact HQ.out _ hcur) (first
      | (go_at_call 88; refine (HWO.out _ hcur).mono ?_; rintro e wG ⟨q, hq, rfl, hxG⟩; have hcur := hcur.trans hxG)
      | (go_at_call 42; refine (HW.out _ _ (by rw [IntWalk.i64_in _ (by omega)]; omega) (by rw [IntWalk.i64_in _ (by omega)]; omega)).mono ?_; rintro e wR ⟨rfl, rfl⟩))
    go_wp2_with fail
    refine bodyPost_ret (v := .tuple #[.int .i64 x.ent, .int .i64 vk, .int .i64 (arnd wd (IntKind.i64.wrap ((q : Int) + 2)))]) (by simp [results, Tryz.results40, go_sem, *]) rfl ?_
    exact ⟨_, _, _, rfl, HXZ.out.trans hcur⟩
end Go.Proofs.YtdbnddmncbjobaaGreatDoor

/- cite.Of with one shape of answer; what Freeze leaves. -/
namespace Go.Proofs.YtdbnddmncbjobaaGreatDoor
open Go Go.RowKit

def ofT (o : Option (Int × Int × Nat)) (br : Int) : Int × Int × Int × Int × Bool := match o with | none => (0, 0, 0, 0, false) | some (n, s, i) => (br, n, s, (i : Int), true)
def OfG (w : World) (b : Bk) (br e v wd : Int) (z : Ending) (w' : World) : Prop :=
  ∃ (c0 c1 c2 c3 : Int) (ok : Bool), ofT (ofP b br e v wd) br = (c0, c1, c2, c3, ok) ∧ z = .returned (.tuple #[.agg #[.int .i64 c0, .int .i64 c1, .int .i64 c2, .int .i64 c3], .bool ok]) ∧ Ext w w'
theorem OkB.big {b : Bk} {N V N' V' : Nat} (h : OkB b N V) (hN : N ≤ N') (hV : V ≤ V') : OkB b N' V' :=
  ⟨h.m0, h.m1, h.h0, h.h1, Nat.le_trans h.n hN, fun x hx => ⟨(h.vs x hx).1, (h.vs x hx).2.1, Nat.le_trans (h.vs x hx).2.2 hV⟩, h.tx, h.ent⟩
end Go.Proofs.YtdbnddmncbjobaaGreatDoor

/- What CiteLeads asks: plain. -/
namespace Go.Proofs.YtdbnddmncbjobaaGreatDoor
open Go Go.RowKit

theorem pagesT_all (R : List Ln → List Ln → Prop) (ent ver : Int) (first : Bool) : ∀ (ps : List (List Ln × List Ln)) (n s : Int), (∀ q ∈ ps, R q.1 q.2) → ∀ p ∈ (pagesT ent ver first ps n s).1, R p.body p.nts := by
  intro ps
  induction ps with
  | nil => intro n s _ p hp; simp [pagesT] at hp
  | cons a ps ih =>
    intro n s h p hp
    simp only [pagesT] at hp
    rcases List.mem_cons.1 hp with rfl | hp
    · exact h a (by simp)
    · exact ih _ _ (fun q hq => h q (by simp [hq])) p hp
theorem pagesV_all (R : List Ln → List Ln → Prop) (m h ent : Int) : ∀ (vs : List Int) (ts : List Tx) (f : Bool) (n s : Int), (∀ t ∈ ts, ∀ q ∈ (textP t m h).2, R q.1 q.2) → ∀ p ∈ (pagesV m h ent vs ts f n s).1, R p.body p.nts := by
  intro vs
  induction vs with
  | nil => intro ts f n s _ p hp; simp [pagesV] at hp
  | cons v vs ih =>
    intro ts f n s hk p hp
    cases ts with
    | nil => simp [pagesV] at hp
    | cons t ts =>
      simp only [pagesV] at hp
      rcases List.mem_append.1 hp with hp | hp
      · exact pagesT_all R _ _ _ _ _ _ (hk t (by simp)) p hp
      · exact ih ts _ _ _ (fun t ht => hk t (by simp [ht])) p hp
theorem pagesS_all (R : List Ln → List Ln → Prop) (m h : Int) : ∀ (l : List Se) (n : Int), (∀ x ∈ l, ∀ t ∈ x.texts, ∀ q ∈ (textP t m h).2, R q.1 q.2) → ∀ p ∈ pagesS m h l n, R p.body p.nts := by
  intro l
  induction l with
  | nil => intro n _ p hp; simp [pagesS] at hp
  | cons x l ih =>
    intro n hk p hp
    simp only [pagesS] at hp
    rcases List.mem_append.1 hp with hp | hp
    · exact pagesV_all R _ _ _ _ _ _ _ _ (hk x (by simp)) p hp
    · exact ih _ (fun y hy => hk y (by simp [hy])) p hp
theorem OkB.hgt {b : Bk} {N V : Nat} (h : OkB b N V) : ∀ p ∈ pagesB b, (p.body ++ p.nts).length ≤ 100 := by
  intro p hp
  have := pagesS_all (fun x y => x.length + y.length ≤ 100) b.ms b.ht b.secs 0 (fun x hx t ht q hq => by
    have h9 := (textP_ok (h.tx x hx t ht) h.m0 h.m1 h.h0 h.h1).2.2.2 q hq
    have := h.h1
    show q.1.length + q.2.length ≤ 100
    omega) p hp
  rw [List.length_append]
  exact this
end Go.Proofs.YtdbnddmncbjobaaGreatDoor

/- What is added, corrected, struck and frozen, in plain Lean: the books of CiteKeeps. -/
namespace Go.Proofs.YtdbnddmncbjobaaGreatDoor

def addP (b : Bk) (e v : Int) (t : Tx) : Bk := { b with secs := b.secs ++ [⟨e, false, [v], [t]⟩] }
theorem OkB.add {b : Bk} {N V : Nat} (h : OkB b N V) (hV : 1 ≤ V) {e : Int} (v : Int) {t : Tx} (ht : OkT t) (hn : ∀ y ∈ b.secs, y.ent ≠ e) : OkB (addP b e v t) (N + 1) V := by
  refine ⟨h.m0, h.m1, h.h0, h.h1, by have := h.n; simp [addP]; omega, fun x hx => ?_, fun x hx => ?_, ?_⟩
  · simp only [addP, List.mem_append, List.mem_singleton] at hx
    rcases hx with hx | rfl
    · exact h.vs x hx
    · exact ⟨rfl, by simp, hV⟩
  · simp only [addP, List.mem_append, List.mem_singleton] at hx
    rcases hx with hx | rfl
    · exact h.tx x hx
    · intro u hu
      simp only [List.mem_singleton] at hu
      subst hu; exact ht
  · simp only [addP, List.map_append, List.map_cons, List.map_nil]
    rw [List.nodup_append]
    refine ⟨h.ent, by simp, fun a ha b' hb => ?_⟩
    obtain ⟨y, hy, rfl⟩ := List.mem_map.1 ha
    simp only [List.mem_singleton] at hb
    subst hb
    exact hn y hy
/-- The books that operations on a frozen one make. -/
structure KpS (b0 : Bk) (e v : Int) (i : Nat) (b : Bk) : Prop where
  ok : OkB b (4 + i) (3 + i)
  kp : Keeps b0 b e v
  fz : frzIn b e = true
  fa : ∀ x ∈ b.secs, x.ent = e → x.fz = true
theorem KpS.succ {b0 b : Bk} {e v : Int} {i : Nat} (h : KpS b0 e v i b) : KpS b0 e v (i + 1) b := ⟨h.ok.big (by omega) (by omega), h.kp, h.fz, h.fa⟩
theorem OkT.pgs {b : Bk} {N V : Nat} (h : OkB b N V) {t : Tx} (ht : OkT t) : (textP t b.ms b.ht).2 ≠ [] ∧ (textP t b.ms b.ht).2.length ≤ 200 := by
  have := textP_ok ht h.m0 h.m1 h.h0 h.h1
  exact ⟨this.2.1, this.2.2.1⟩
theorem KpS.add {b0 b : Bk} {e v : Int} {i : Nat} (h : KpS b0 e v i b) {e' : Int} (v' : Int) {t : Tx} (ht : OkT t) (hn : ∀ y ∈ b.secs, y.ent ≠ e') : KpS b0 e v (i + 1) (addP b e' v' t) := by
  have h1 := (h.ok.big (N' := 4 + i) (V' := 3 + (i + 1)) (by omega) (by omega)).add (by omega) v' ht hn
  refine ⟨by rw [show 4 + (i + 1) = 4 + i + 1 by omega]; exact h1, h.kp.trans (keeps_add h.ok.okK e v ⟨e', false, [v'], [t]⟩ ⟨200, fun u hu => ?_⟩ ⟨by simp, rfl⟩ hn), ?_, fun x hx he => ?_⟩
  · simp only [List.mem_singleton] at hu
    subst hu
    exact OkT.pgs h.ok ht
  · have := h.fz
    unfold frzIn at this ⊢
    simp only [addP, List.any_append, this, Bool.true_or]
  · simp only [addP, List.mem_append, List.mem_singleton] at hx
    rcases hx with hx | rfl
    · exact h.fa x hx he
    · exfalso
      have h2 := h.fz
      unfold frzIn at h2
      rw [List.any_eq_true] at h2
      obtain ⟨y, hy, h3⟩ := h2
      simp only [Bool.and_eq_true, beq_iff_eq] at h3
      exact hn y hy (h3.1.trans he.symm)
theorem KpS.start {b : Bk} (h : OkB b 4 3) (hf : ∀ x ∈ b.secs, x.fz = true) {br e v wd : Int} {y : Int × Int × Nat} (ho : ofP b br e v wd = some y) : KpS b e v 0 b := by
  refine ⟨h, Keeps.refl h.okK e v, ?_, fun x hx _ => hf x hx⟩
  unfold ofP at ho
  split at ho
  · cases ho
  · next hc => simp only [not_or] at hc; simpa using hc.2.2
/-- What was cited is cited so, and leads where it led. -/
theorem KpS.of {b0 b : Bk} {e v : Int} {i : Nat} (h : KpS b0 e v i b) {wd n s : Int} {k : Nat} (ho : ofP b0 0 e v wd = some (n, s, k)) : ofP b 0 e v wd = some (n, s, k) := by
  have h1 : whereP b0 e v wd = some (n, s, k) := by
    unfold ofP at ho
    split at ho
    · cases ho
    · exact ho
  unfold ofP
  rw [if_neg (by rw [h.fz]; simp)]
  exact h.kp.place wd _ h1
theorem KpS.find {b0 b : Bk} {e v : Int} {i : Nat} (h : KpS b0 e v i b) {n s line : Int} {p : Pg} {x : Ln} (hc : citP b0 n s line = some (p, x)) : citP b n s line = some (p, x) := by
  unfold citP at hc ⊢
  cases hp : pageP b0 n s with
  | none => rw [hp] at hc; cases hc
  | some q =>
    rw [hp] at hc
    rw [h.kp.page n s q hp]
    exact hc
end Go.Proofs.YtdbnddmncbjobaaGreatDoor

/- book.Add: walked. -/
namespace Go.Proofs.YtdbnddmncbjobaaGreatDoor
open Go Go.RowKit

theorem BkO.own {W : World} {base : Nat} {ls : List Se} {g n : Nat} (h : BkO W base ls g) (hn : n = ls.length) (hn2 : n ≤ 1000000) : kSe.own 46 W base (fun q => g < q) (.slice (some ⟨g, 0, none⟩) n n) ls := by
  obtain ⟨ds, h0, h1, h2, h3⟩ := h
  have hl := gcells_len (cf := ccf) ccf_len ds
  refine ⟨ds, ⟨gcells_len ccf_len _, .inr ⟨g, n, _, by rw [h2, hn], h0, h1, by rw [h2, hn]; exact Nat.le_refl _, by simp only [maxLen]; omega, by rw [List.size_toArray, hl, h2, hn], by rw [show (gcells ccf ds).toArray.toList = gcells ccf ds from rfl, List.take_of_length_le (by rw [hl]; exact Nat.le_refl _)]⟩⟩, h2, fun i d x hd hx => ?_⟩
  exact kSe.mono (h3 i d x hd hx) fun q hq _ => ⟨hq, by simp [Value.ownBlock]; omega⟩
/-- The result's cells. -/
structure BkR (z : Nat) (W : World) : Prop where
  c0 : W.cell? ⟨z, 0, none⟩ = some (.int .i64 0)
  c1 : W.cell? ⟨z, 1, none⟩ = some (.int .i64 0)
  c2 : W.cell? ⟨z, 2, none⟩ = some (.slice none 0 0)
  f0 : W.frozen? ⟨z, 0, none⟩ = false
  f1 : W.frozen? ⟨z, 1, none⟩ = false
  f2 : W.frozen? ⟨z, 2, none⟩ = false
theorem BkR.of {z : Nat} {W : World} (h : W.heap[z]? = some (.cells #[.int .i64 0, .int .i64 0, .slice none 0 0] 27 (0, 0))) : BkR z W :=
  ⟨cell_of h (i := 0) rfl, cell_of h (i := 1) rfl, cell_of h (i := 2) rfl, frozen_of h 0, frozen_of h 1, frozen_of h 2⟩
theorem step_append_tm {P : Program} {w : World} {ys : Nat → Option Bool} {o : Oper} {a : Act} {K : Act → World → Prop} {Q : Exit → Act → World → Prop} {E : Prop} {s x : Operand} {t : TypeId} {vs vx v' : Value} {w' : World}
    (hr : (Builtin.append_ #[t, t] t #[vs, vx]).run P w = .ok v' w') (hgd : o.guard = none)
    (ho : o.op = .call { callee := .builtin .append, args := #[s, x], argTypes := #[t, t] }) (hty : o.type = t) (hs : a.eval s = vs) (hx : a.eval x = vx)
    (h : K (a.put o.dst v') w') : if Region.wanted o ys = true then Oper.wp P o a w K Q else E := by
  have hw : Region.wanted o ys = true := by simp [Region.wanted, hgd]
  rw [if_pos hw]
  unfold Oper.wp execOp
  simp only [ho, hty, resolve, invoke, builtin, Sem.run_bind, Sem.run_pure, Result.andThen_ok, List.map_toArray, List.map_cons, List.map_nil, hs, hx, hr]
  exact h
end Go.Proofs.YtdbnddmncbjobaaGreatDoor

/- book.Strike at an entry whose section is frozen: walked. -/
namespace Go.Proofs.YtdbnddmncbjobaaGreatDoor
open Go Go.RowKit

end Go.Proofs.YtdbnddmncbjobaaGreatDoor

/- What book.Correct does in memory: a version and a text are appended to a section of a cloned book. -/
namespace Go.Proofs.YtdbnddmncbjobaaGreatDoor
open Go Go.RowKit

theorem info3b : (Tryz.prog.info? 3).map (fun i => (i.zero, i.size, i.bytes)) = some (some (Value.int .i64 0), 1, 8) := by kernel_rfl
end Go.Proofs.YtdbnddmncbjobaaGreatDoor

/- The reference's Gaps and Ints: walked. -/
namespace Go.Proofs.YtdbnddmncbjobaaGreatDoor
open Go Go.RowKit

theorem gapsP_len (ws : List Int) (m : Int) (last : Bool) : (gapsP ws m last).length = ws.length - 1 := by
  unfold gapsP
  cases last
  · simp [gapsGo_len]
  · simp
theorem gapsP_at (ws : List Int) (m : Int) (last : Bool) {k i : Nat} (hk : ws.length - 1 = k) (hi : i < k) : (gapsP ws m last)[i]? = some (if last then 6 else gapAt (slackP ws m) k i) := by
  unfold gapsP
  cases last
  · rw [hk]
    have := gapsGo_at (slackP ws m) k k 0 i hi
    rw [Nat.zero_add] at this
    simpa using this
  · rw [hk]
    simp [hi]
/-- An int is appended to a row of the call's own. -/
theorem int_app {w X : World} {v : Value} {xs : List Int} {x : Int} (h : kInt.own 3 X w.heap.size (fun _ => True) v xs) (hx : Ext w X) (hl : xs.length < 1000000) :
    ∃ A' c' w', (Builtin.append_ #[22, 22] 22 #[v, .slice (some ⟨X.heap.size, 0, none⟩) 1 1]).run Tryz.prog (X.alloc (.cells #[.int .i64 x] 3)) = .ok (.slice A' (xs.length + 1) c') w' ∧ kInt.own 3 w' w.heap.size (fun _ => True) (.slice A' (xs.length + 1) c') (xs ++ [x]) ∧ Ext w w' := by
  obtain ⟨A', c', w', r1, r2, r3, _⟩ := own_app1 (k := kInt) (Pr := Tryz.prog) (t := 22) Tryz.underlying22 info3b rfl (by decide) (by omega) h hx.lt (cs := #[.int .i64 x]) (T := 3) (x := x) rfl 1 (by omega)
  exact ⟨A', c', w', r1, r2, Below.trans hx (r3 _ (Nat.le_refl _))⟩
def RgR (w : World) (G : List Int) (k : Nat) (s7 s10 : Value) (w' : World) : Prop := ∃ (i : Nat) (A : Option Addr) (c : Nat), i ≤ k ∧ s10 = .int .i64 i ∧ s7 = .slice A i c ∧ kInt.own 3 w' w.heap.size (fun _ => True) (.slice A i c) (G.take i) ∧ Ext w w'
set_option maxHeartbeats 4000000 in
set_option maxRecDepth 100000 in
theorem rgaps_any (P : Nat → Prop) (w : World) (A : Option Addr) (n c : Nat) (ws : List Int) (m : Int) (last : Bool) (h : kInt.row w P A n ws) (hw : Wds ws) (hn : n ≤ 500) (hm0 : 0 ≤ m) (hm : m ≤ 2000) :
    Calls Tryz.prog 213 #[.slice A n c, .int .i64 m, .bool last] w (fun e w' => ∃ A' c', e = .returned (.slice A' (gapsP ws m last).length c') ∧ kInt.own 3 w' w.heap.size (fun _ => True) (.slice A' (gapsP ws m last).length c') (gapsP ws m last) ∧ Ext w w') := by
  have hl := Lay.row_len h
  have hbd := slackP_bd hm0 hm ws hw (by omega)
  have HSL := Lib.hid (rslack_any P w A n c ws m h hw hn hm0 hm)
  obtain ⟨k, hk⟩ : ∃ k, ws.length - 1 = k := ⟨_, rfl⟩
  obtain ⟨kk, hkk⟩ : ∃ kk : Int, kk = (n : Int) - 1 := ⟨_, rfl⟩
  have HG := Lib.hid (fun i (hi : i < k) => gapsP_at ws m last hk hi)
  have HGL := Lib.hid (show (gapsP ws m last).length = k by rw [gapsP_len, hk])
  obtain ⟨G, hG⟩ : ∃ G, gapsP ws m last = G := ⟨_, rfl⟩
  obtain ⟨s, hs⟩ : ∃ s, slackP ws m = s := ⟨_, rfl⟩
  rw [hs] at HSL hbd HG
  rw [hG] at HGL HG ⊢
  obtain ⟨hb1, hb2⟩ := hbd
  have HKN := Lib.hid (show (kk = (k : Int) ∨ (kk = -1 ∧ k = 0)) ∧ k ≤ 499 by omega)
  have HKK := Lib.hid hkk.symm
  clear h hl hw hs hG hk hkk
  go_enter Tryz.func213, Tryz.ntmps213
  go_wp2_with (first | (go_at_call 237; refine (HSL.out).mono ?_; rintro e w2 ⟨rfl, rfl⟩))
  rw [HKK.out]
  go_loopw [7, 10, 11] (fun s7 s10 _ w' => RgR w G k s7 s10 w') (fun _ s10 _ _ => toM k s10)
  case atStart => exact ⟨0, none, 0, by omega, rfl, rfl, by rw [List.take_zero]; exact Lay.own_nil _ _ _ _ _, Ext.refl _⟩
  case round =>
    obtain ⟨i, A9, c9, hi, rfl, rfl, ho, hx⟩ := hrel
    have HO := Lib.hid ho
    have HX := Lib.hid hx
    clear ho hx
    by_cases hlt : i < k
    case neg =>
      obtain rfl : i = k := by omega
      have hni : ¬ ((i : Int) < kk) := by have := HKN.out; omega
      go_wp2_with fail
      go_ret
      have h9 := HO.out
      rw [List.take_of_length_le (by rw [HGL.out]; exact Nat.le_refl _)] at h9
      rw [HGL.out]
      exact ⟨A9, c9, rfl, h9, HX.out⟩
    obtain rfl : kk = (k : Int) := by have := HKN.out; omega
    have hI : (i : Int) < (k : Int) := by omega
    have hk499 := HKN.out.2
    obtain ⟨dv, hdv⟩ : ∃ dv, s.tdiv (k : Int) = dv := ⟨_, rfl⟩
    obtain ⟨md, hmd⟩ : ∃ md, s.tmod (k : Int) = md := ⟨_, rfl⟩
    have hdb : -300000 ≤ dv ∧ dv ≤ 300000 := by
      have := Int.natAbs_tdiv_le_natAbs s k
      rw [hdv] at this
      omega
    obtain ⟨hdb1, hdb2⟩ := hdb
    have hk0 : ¬ (k : Int) = 0 := by omega
    have hk00 : ¬ k = 0 := by omega
    have hkb : ((k : Int) == 0) = false := by rw [beq_eq_false_iff_ne]; exact hk0
    have HGI := Lib.hid (HG.out i hlt)
    have HGA := Lib.hid (show gapAt s k i = 6 + dv + (if (i : Int) < md then 1 else 0) by unfold gapAt; rw [hdv, hmd])
    have HAP := Lib.hid (fun y => int_app (x := y) HO.out HX.out (by rw [List.length_take]; have := HKN.out; omega))
    have HST := Lib.hid (fun (A' : Option Addr) (c' : Nat) (w' : World) (y : Int) (hy : G[i]? = some y) (ho : kInt.own 3 w' w.heap.size (fun _ => True) (.slice A' ((G.take i).length + 1) c') (G.take i ++ [y])) (hx : Ext w w') => (show RgR w G k (.slice A' (i + 1) c') (.int .i64 ((i : Int) + 1)) w' from by
      have hl : (G.take i).length = i := by rw [List.length_take, HGL.out]; omega
      rw [hl] at ho
      refine ⟨i + 1, A', c', by omega, by simp, rfl, ?_, hx⟩
      rw [List.take_add_one, hy]
      exact ho))
    have hl : (G.take i).length = i := by rw [List.length_take, HGL.out]; omega
    cases last with
    | true =>
      obtain ⟨A', c', w', hrun, ho, hx⟩ := HAP.out 6
      rw [hl] at hrun
      have HRUN := Lib.hid hrun
      have HR := Lib.hid (HST.out A' c' w' 6 HGI.out ho hx)
      clear hrun ho hx hl
      go_wp2_with (first | (at_builtin; refine wpList_append_run (s := .tmp 37) (x := .tmp 39) HRUN.out rfl rfl rfl rfl rfl ?_))
      go_roundw
      case rel => exact HR.out
      case measure => simp only [toM]; omega
    | false =>
      have hw6 : IntKind.i64.wrap (6 + dv) = 6 + dv := IntWalk.i64_in _ (by omega)
      have hwd : IntKind.i64.wrap dv = dv := IntWalk.i64_in _ (by omega)
      by_cases hmdi : (i : Int) < md
      · obtain ⟨A', c', w', hrun, ho, hx⟩ := HAP.out (6 + dv + 1)
        rw [hl] at hrun
        have HRUN := Lib.hid hrun
        have HR := Lib.hid (HST.out A' c' w' (6 + dv + 1) (by rw [HGI.out, HGA.out, if_pos hmdi]; rfl) ho hx)
        clear hrun ho hx hl
        go_wp2_with (first | (at_builtin; refine wpList_append_run (s := .tmp 37) (x := .tmp 39) HRUN.out rfl rfl rfl rfl rfl ?_))
        go_roundw
        case rel => exact HR.out
        case measure => simp only [toM]; omega
      · obtain ⟨A', c', w', hrun, ho, hx⟩ := HAP.out (6 + dv)
        rw [hl] at hrun
        have HRUN := Lib.hid hrun
        have HR := Lib.hid (HST.out A' c' w' (6 + dv) (by rw [HGI.out, HGA.out, if_neg hmdi, Int.add_zero]; rfl) ho hx)
        clear hrun ho hx hl
        go_wp2_with (first | (at_builtin; refine wpList_append_run (s := .tmp 37) (x := .tmp 39) HRUN.out rfl rfl rfl rfl rfl ?_))
        go_roundw
        case rel => exact HR.out
        case measure => simp only [toM]; omega
theorem slice_hi (A : Option Addr) (n c : Nat) (hn : n ≤ c) (hA : A = none → n = 0) (W : World) : (Instr.sliceAt 22 (.slice A n c) none (some (.int .i64 (n : Int))) none).run Tryz.prog W = .ok (.slice A n c) W := by
  cases A with
  | none =>
    obtain rfl := hA rfl
    by_cases hc : c = 0
    · subst hc; go_simp
    · go_simp
  | some a =>
    have h1 : (n : Int) ≤ (c : Int) := by omega
    by_cases hc : c = 0
    · subst hc
      obtain rfl : n = 0 := by omega
      go_simp
    · go_simp
theorem row_none {β : Type} {k : Lay β} {W : World} {P : Nat → Prop} {n : Nat} {xs : List β} (h : k.row W P none n xs) : n = 0 := by
  obtain ⟨ds, h1, h2, h3, _⟩ := h
  rcases Nat.eq_zero_or_pos n with h | h
  · exact h
  · obtain ⟨b, off, e, _⟩ := h3.2 h; cases e
theorem own_intQ {W : World} {e : TypeId} {b : Nat} {P Q : Nat → Prop} {v : Value} {xs : List Int} (h : kInt.own e W b P v xs) : kInt.own e W b Q v xs := by
  obtain ⟨ds, h1, h2, h3⟩ := h
  exact ⟨ds, h1, h2, h3⟩
set_option maxHeartbeats 4000000 in
set_option maxRecDepth 100000 in
theorem rints_any (P : Nat → Prop) (w : World) (A : Option Addr) (n c : Nat) (xs : List Int) (h : kInt.row w P A n xs) (hc : n ≤ c) (hn : n ≤ 1000000) :
    Calls Tryz.prog 214 #[.slice A n c, .int .i64 (n : Int)] w (fun e w' => ∃ A' c', e = .returned (.slice A' n c') ∧ n ≤ c' ∧ kInt.row w' (fun j => w.heap.size ≤ j) A' n xs ∧ Ext w w') := by
  have hl := Lay.row_len h
  have HS := Lib.hid (slice_hi A n c hc (fun e => by subst e; exact row_none h))
  obtain ⟨A', c', w', hrun, ho, hx⟩ := own_app (k := kInt) (Pr := Tryz.prog) (t := 22) (e := 3) Tryz.underlying22 info3b rfl (by decide) (by omega) (Lay.own_nil kInt 3 w w.heap.size P) (Ext.refl w) h c (by simp; omega)
  simp only [List.length_nil, Nat.zero_add, List.nil_append] at hrun ho
  have HF := Lib.hid (show n ≤ c' ∧ kInt.row w' (fun j => w.heap.size ≤ j) A' n xs ∧ Ext w w' from by
    have ho' : kInt.own 3 w' w.heap.size (fun _ => False) (.slice A' n c') xs := own_intQ ho
    have hlt := Lay.own_lt ho'
    obtain ⟨A9, c9, e9, h9, hr9⟩ := Lay.own_row ho'
    obtain ⟨e1, e2, e3⟩ := Value.slice.inj e9
    rw [← e1, ← e2] at hr9
    exact ⟨by rw [e2, e3]; exact h9, Lay.row_mono hr9 fun j hj _ => by
      rcases hj with hj | hj
      · exact hj.elim
      · exact (hlt j hj).1, hx⟩)
  have HRUN := Lib.hid hrun
  have hs := HS.out w
  have hmin : min (n : Int) (n : Int) = (n : Int) := by omega
  clear h hl hrun ho hx
  go_enter Tryz.func214, Tryz.ntmps214
  go_wp2_with (first | (at_builtin; refine wpList_append_run (s := .tmp 6) (x := .tmp 12) HRUN.out rfl rfl rfl rfl rfl ?_))
  go_ret
  exact ⟨A', c', rfl, HF.out⟩
end Go.Proofs.YtdbnddmncbjobaaGreatDoor

/- The reference's lines: walked (printed by genvc.py). -/
namespace Go.Proofs.YtdbnddmncbjobaaGreatDoor
open Go Go.RowKit

/-- The widths of the first i words. -/
def RlW (w : World) (ws : List Wd) (s7 s8 : Value) (w' : World) : Prop := ∃ (i : Nat) (A : Option Addr) (c : Nat), i ≤ ws.length ∧ s8 = .int .i64 i ∧ s7 = .slice A i c ∧ kInt.own 3 w' w.heap.size (fun _ => True) (.slice A i c) ((wdsL ws).take i) ∧ Ext w w'
/-- The first i lines. -/
def RlL (w2 : World) (ls : List Nat) (LN : List Ln) (s11 s12 s13 : Value) (w' : World) : Prop := ∃ (i F : Nat) (A : Option Addr) (c : Nat), i ≤ ls.length ∧ s13 = .int .i64 i ∧ s12 = .int .i64 F ∧ F = (ls.take i).sum ∧ s11 = .slice A i c ∧ Ext w2 w' ∧ kLn.own 86 w' w2.heap.size (fun j => w2.heap.size ≤ j) (.slice A i c) (LN.take i)
/-- A line is laid. -/
def RlB (wr : World) (f1 f2 : Int) (G : List Int) (s14 : Value) (wx : World) : Prop := ∃ (bl : Nat) (Ag : Option Addr) (cg : Nat), s14 = .pointer (some ⟨bl, 0, none⟩) ∧ wr.heap.size ≤ bl ∧ G.length ≤ cg ∧ wx.heap[bl]? = some (.cells #[.int .i64 f1, .int .i64 f2, .slice Ag G.length cg, .slice none 0 0] 86 (0, 0)) ∧ kInt.row wx (fun j => wr.heap.size ≤ j ∧ j ≠ bl) Ag G.length G ∧ Ext wr wx
/-- The notes of the first j words of a line. -/
def RlN (w4 : World) (bl : Nat) (f1 f2 : Int) (gv : Value) (p : List Wd) (F : Nat) (s15 : Value) (w' : World) : Prop := ∃ (j k : Nat) (nv : Value), j ≤ p.length ∧ k = F + j ∧ s15 = .int .i64 k ∧ Mv bl w4 w' ∧ w'.heap[bl]? = some (.cells #[.int .i64 f1, .int .i64 f2, gv, nv] 86 (0, 0)) ∧ kInt.own 3 w' w4.heap.size (fun _ => True) nv (ntsOf (p.take j))
theorem rl_box {wr V : World} {bl : Nat} (hV : V.heap[bl]? = some (.cells #[.int .i64 0, .int .i64 0, .slice none 0 0, .slice none 0 0] 86 (0, 0))) (hw : wr.heap.size ≤ bl) (hx : Ext wr V) {Ag : Option Addr} {G : List Int} {cg : Nat} (hr : kInt.row V (fun j => wr.heap.size ≤ j ∧ j ≠ bl) Ag G.length G) (hg : G.length ≤ cg) (f1 f2 : Int) :
    RlB wr f1 f2 G (.pointer (some ⟨bl, 0, none⟩)) ((((V.setCell ⟨bl, 0, none⟩ (.int .i64 f1)).setCell ⟨bl, 1, none⟩ (.int .i64 f2)).setCell ⟨bl, 2, none⟩ (.slice Ag G.length cg)).setCell ⟨bl, 3, none⟩ (.slice none 0 0)) := by
  refine ⟨bl, Ag, cg, rfl, hw, hg, heap_setCell_same _ bl 3 _ 86 _ (heap_setCell_same _ bl 2 _ 86 _ (heap_setCell_same _ bl 1 _ 86 _ (heap_setCell_same _ bl 0 _ 86 _ hV))), Lay.row_keep hr (by simp) fun j hj _ => ?_, (((hx.setCell (p := ⟨bl, 0, none⟩) hw _).setCell (p := ⟨bl, 1, none⟩) hw _).setCell (p := ⟨bl, 2, none⟩) hw _).setCell (p := ⟨bl, 3, none⟩) hw _⟩
  rw [heap_setCell_other _ ⟨bl, 3, none⟩ j _ hj.2, heap_setCell_other _ ⟨bl, 2, none⟩ j _ hj.2, heap_setCell_other _ ⟨bl, 1, none⟩ j _ hj.2, heap_setCell_other _ ⟨bl, 0, none⟩ j _ hj.2]
theorem slice_mid (b o n c l h : Nat) (hl : l < h) (hh : h ≤ c) (W : World) : (Instr.sliceAt 22 (.slice (some ⟨b, o, none⟩) n c) (some (.int .i64 (l : Int))) (some (.int .i64 (h : Int))) none).run Tryz.prog W = .ok (.slice (some ⟨b, o + l, none⟩) (h - l) (c - l)) W := by
  have h1 : (l : Int) ≤ (h : Int) := by omega
  have h2 : (h : Int) ≤ (c : Int) := by omega
  have h3 : ¬ l = c := by omega
  have h4 : ¬ c = l := by omega
  go_simp
theorem exec_slice2 {P : Program} {ev : Operand → Value} {o : Oper} {t : TypeId} {x y y' : Operand} {vx vy vy' v : Value} {w : World} (ho : o.op = .slice t x (some y) (some y') none) (hx : ev x = vx) (hy : ev y = vy) (hy' : ev y' = vy') (hr : (Instr.sliceAt t vx (some vy) (some vy') none).run P w = .ok v w) : (execOp ev o).run P w = .ok (.value v) w := by
  unfold execOp
  simp [ho, hx, hy, hy', hr]
set_option maxHeartbeats 8000000 in
set_option maxRecDepth 100000 in
theorem rlines1_any (P : Nat → Prop) (w : World) (A : Option Addr) (n c : Nat) (ws : List Wd) (first m : Int) (h : kWd.row w P A n ws) (hv : WsV ws) (hn : n ≤ 500) (hf0 : 0 ≤ first) (hf : first ≤ 1000000) (hm0 : 500 ≤ m) (hm : m ≤ 2000) :
    Calls Tryz.prog 179 #[.slice A n c, .int .i64 first, .int .i64 m] w (fun e w' => ∃ A' c', e = .returned (.slice A' (setP ws first m).length c') ∧ kLn.own 86 w' w.heap.size (fun j => w.heap.size ≤ j) (.slice A' (setP ws first m).length c') (setP ws first m) ∧ Ext w w') := by
  have HL := Lib.hid (Lay.row_len h)
  have HR := Lib.hid h
  have HV := Lib.hid hv
  have HLW := Lib.hid (show (wdsL ws).length = n by unfold wdsL; rw [List.length_map]; exact (Lay.row_len h).symm)
  have hlo := lens_ok (m := m) hm0 hv.wdr.wds
  rw [HLW.out] at hlo
  obtain ⟨ls, hls⟩ : ∃ ls, lens (wdsL ws) m = ls := ⟨_, rfl⟩
  rw [hls] at hlo
  have HLS := Lib.hid hls
  have HLO := Lib.hid hlo
  have hL5 : ls.length ≤ 500 := by have := len_le_sum ls hlo.1; omega
  have HLN := Lib.hid (show (setP ws first m).length = ls.length by rw [setP_lens]; exact congrArg List.length hls)
  have HAT := Lib.hid (fun i l (h : ls[i]? = some l) => show (setP ws first m)[i]? = some (⟨first + ((ls.take i).sum : Nat), first + (((ls.take i).sum + l : Nat) : Int), gapsP (((ws.drop (ls.take i).sum).take l).map fun w => wid w.s) m (decide (i + 1 = ls.length)), ntsOf ((ws.drop (ls.take i).sum).take l)⟩ : Ln) by
    have h9 : lens (ws.map fun w => wid w.s) m = ls := hls
    unfold setP
    rw [h9]
    exact linesGo_at m ls ws first i l h)
  obtain ⟨LN, hLN⟩ : ∃ LN, setP ws first m = LN := ⟨_, rfl⟩
  rw [hLN] at HLN HAT ⊢
  have HEN := Lib.hid (fun X (hX : Ext w X) A1 c1 (h1 : kInt.row X (fun _ => True) A1 n (wdsL ws)) => (show Calls Tryz.prog 212 #[.slice A1 n c1, .int .i64 m] X (fun e w' => ∃ A' c', e = .returned (.tuple #[.slice A' ls.length c', .int .i64 0]) ∧ kInt.own 3 w' X.heap.size (fun _ => True) (.slice A' ls.length c') (cum 0 ls) ∧ Ext X w') from by
    have h9 := rends_any (fun _ => True) X A1 n c1 (wdsL ws) m h1 hv.wdr hn hm0 hm
    rwa [hls] at h9))
  clear h hv hlo hls hLN
  go_enter Tryz.func179, Tryz.ntmps179
  go_wp2_with fail
  go_loopw [7, 8] (fun s7 s8 w' => RlW w ws s7 s8 w') (fun _ s8 _ => toM n s8)
  case atStart => exact ⟨0, none, 0, by omega, rfl, rfl, by rw [List.take_zero]; exact Lay.own_nil _ _ _ _ _, Ext.refl _⟩
  case round =>
    obtain ⟨i, A7, c7, hi, rfl, rfl, ho, hx⟩ := hrel
    rw [← HL.out] at hi
    have HO := Lib.hid ho
    have HX := Lib.hid hx
    clear ho hx
    by_cases hlt : i < n
    case pos =>
      have hI : (i : Int) < (n : Int) := by omega
      obtain ⟨x, hxi⟩ : ∃ x, ws[i]? = some x := ⟨_, List.getElem?_eq_getElem (by have := HL.out; omega)⟩
      obtain ⟨b0, off, cs, rfl, hb0, _, hrep, hcell⟩ := Lay.row_at (Lay.row_ext HR.out HX.out) hxi
      rw [kWd_rep] at hrep
      subst hrep
      have c0 := hcell 0 _ rfl
      rw [kWd_sz, Nat.add_zero] at c0
      have hll : ((wdsL ws).take i).length = i := by rw [List.length_take, HLW.out]; omega
      obtain ⟨A9, c9, w9, hrun, ho9, hx9⟩ := int_app (x := wid x.s) HO.out HX.out (by rw [hll]; omega)
      rw [hll] at hrun ho9
      have HRUN := Lib.hid hrun
      have HREL := Lib.hid (show RlW w ws (.slice A9 (i + 1) c9) (.int .i64 ((i : Int) + 1)) w9 from ⟨i + 1, A9, c9, by have := HL.out; omega, by simp, rfl, by
        have e9 : (wdsL ws)[i]? = some (wid x.s) := by unfold wdsL; rw [List.getElem?_map, hxi]; rfl
        rw [List.take_add_one, e9]
        exact ho9, hx9⟩)
      have HWI := Lib.hid (fun X => rwidth_any ⟨x.s.toArray⟩ X (wid x.s) rfl)
      clear hxi hcell hll hrun ho9 hx9
      go_wp2_with (first | (go_at_call 211; refine (HWI.out _).mono ?_; rintro e w1 ⟨rfl, rfl⟩) | (at_builtin; refine wpList_append_run (s := .tmp 22) (x := .tmp 29) HRUN.out rfl rfl rfl rfl rfl ?_))
      go_roundw
      case rel => exact HREL.out
      case measure => simp only [toM]; omega
    obtain rfl : i = n := by omega
    have hni : ¬ ((i : Int) < (i : Int)) := by omega
    have hrw : kInt.row wr (fun _ => True) A7 i (wdsL ws) := by
      obtain ⟨A8, c8, e8, _, h8⟩ := Lay.own_row HO.out
      rw [List.take_of_length_le (by rw [HLW.out]; exact Nat.le_refl _)] at h8 e8
      have e8a := (Value.slice.inj e8).1
      rw [HLW.out, ← e8a] at h8
      exact Lay.row_mono h8 fun _ _ _ => trivial
    have HRW0 := Lib.hid hrw
    clear hrw
    go_wp2_with (first | (go_at_call 212; refine (HEN.out _ HX.out _ _ HRW0.out).mono ?_; rintro e w2 ⟨Ae, ce, rfl, hoe, hx2⟩; have HOE := Lib.hid hoe; have HX2 := Lib.hid hx2; clear hoe hx2))
    have HXW := Lib.hid (HX.out.trans HX2.out)
    have HRE := Lib.hid (show kInt.row w2 (fun _ => True) Ae ls.length (cum 0 ls) by
      obtain ⟨A9, c9, e9, _, h9⟩ := Lay.own_row HOE.out
      rw [cum_len] at h9 e9
      rw [← (Value.slice.inj e9).1] at h9
      exact Lay.row_mono h9 fun _ _ _ => trivial)
    have HRW := Lib.hid (Lay.row_ext HRW0.out HX2.out)
    have HRS := Lib.hid (Lay.row_ext HR.out HXW.out)
    go_loopw [11, 12, 13, 15] (fun s11 s12 s13 _ w' => RlL w2 ls LN s11 s12 s13 w') (fun _ _ s13 _ _ => toM ls.length s13)
    case atStart => exact ⟨0, 0, none, 0, by omega, rfl, rfl, rfl, rfl, Ext.refl _, by rw [List.take_zero]; exact Lay.own_nil _ _ _ _ _⟩
    case round =>
      obtain ⟨q, F, A11, c11, hq, rfl, rfl, hF, rfl, hx, ho⟩ := hrel
      have HXr := Lib.hid hx
      have HOr := Lib.hid ho
      have HF := Lib.hid hF
      clear hx ho hF
      by_cases hlt2 : q < ls.length
      case neg =>
        obtain rfl : ls.length = q := by omega
        have hnq : ¬ ((ls.length : Int) < (ls.length : Int)) := by omega
        have HO5 := Lib.hid HOr.out
        rw [List.take_of_length_le (by rw [HLN.out]; exact Nat.le_refl _)] at HO5
        go_wp2_with fail
        go_ret
        rw [HLN.out]
        exact ⟨_, _, rfl, own_low HO5.out HXW.out.lt, HXW.out.trans HXr.out⟩
      have hI2 : (q : Int) < (ls.length : Int) := by omega
      obtain ⟨l, hl⟩ : ∃ l, ls[q]? = some l := ⟨_, List.getElem?_eq_getElem hlt2⟩
      have hl1 := HLO.out.1 l (List.mem_of_getElem? hl)
      have hFl := sum_take_le ls hl
      rw [HLO.out.2, ← HF.out] at hFl
      have hce := cum_at ls 0 q l hl
      rw [← HF.out, Int.zero_add] at hce
      obtain ⟨be, oe, rfl, hbe, _, hcell2⟩ := int_at HRE.out hce
      obtain ⟨T, hT⟩ : ∃ T, F + l = T := ⟨_, rfl⟩
      rw [hT] at hFl hcell2
      have HSC := Lib.hid (fun X (hX : Ext w2 X) => (show X.cell? ⟨be, oe + q, none⟩ = some (.int .i64 (T : Int)) from (hX.cells.1 be _ (World.block_lt_of_cell? _ _ hcell2)).trans hcell2))
      have hcell := HSC.out _ HXr.out
      clear hcell2
      have hT1 : F < T := by omega
      have hT2 : (F : Int) < (T : Int) := by omega
      have hTF : T - F = l := by omega
      have HLI := Lib.hid hl
      have HT := Lib.hid hT
      clear hl hce hT
      obtain ⟨b7, o7, rfl, _, _, _⟩ := int_at HRW.out (show (wdsL ws)[F]? = some ((wdsL ws)[F]'(by have := HLW.out; omega)) from List.getElem?_eq_getElem _)
      have hic7 : i ≤ c7 := by
        obtain ⟨_, _, e8, h8, _⟩ := Lay.own_row HO.out
        have e8b := (Value.slice.inj e8).2.1
        have e8c := (Value.slice.inj e8).2.2
        omega
      have hTi : T ≤ i := by have := HLW.out; omega
      obtain ⟨b0, off, cs0, rfl, hb00, _, _, _⟩ := Lay.row_at HRS.out (show ws[F]? = some (ws[F]'(by have := HL.out; omega)) from List.getElem?_eq_getElem _)
      obtain ⟨lb, hlb⟩ : ∃ lb, ((q : Int) == (ls.length : Int) - 1) = lb := ⟨_, rfl⟩
      have HLB := Lib.hid (show lb = decide (q + 1 = ls.length) by
        rw [← hlb]
        by_cases h9 : q + 1 = ls.length
        · rw [decide_eq_true h9, beq_iff_eq]; omega
        · rw [decide_eq_false h9, beq_eq_false_iff_ne]; omega)
      have HCUT := Lib.hid (fun X => (show (Instr.sliceAt 22 (.slice (some ⟨b7, o7, none⟩) i c7) (some (.int .i64 (F : Int))) (some (.int .i64 (T : Int))) none).run Tryz.prog X = .ok (.slice (some ⟨b7, o7 + F, none⟩) l (c7 - F)) X from by
        have h9 := slice_mid b7 o7 i c7 F T (by omega) (by omega) X
        rwa [hTF] at h9))
      have HGP := Lib.hid (fun X (hX : Ext w2 X) => rgaps_any (fun _ => True) X (some ⟨b7, o7 + F, none⟩) l (c7 - F) (((wdsL ws).drop F).take l) m lb (by
        have h9 := Lay.row_take (Lay.row_drop (Lay.row_ext HRW.out hX) F) l (by omega)
        rwa [show kInt.sz = 1 from rfl, Nat.mul_one] at h9) (fun x hx => HV.out.wdr.wds x (List.mem_of_mem_drop (List.mem_of_mem_take hx))) (by omega) (by omega) hm)
      obtain ⟨GP, hGP⟩ : ∃ GP, gapsP (((wdsL ws).drop F).take l) m lb = GP := ⟨_, rfl⟩
      rw [hGP] at HGP
      obtain ⟨p, hp⟩ : ∃ p, (ws.drop F).take l = p := ⟨_, rfl⟩
      have hpl : p.length = l := by rw [← hp, List.length_take, List.length_drop]; have := HL.out; omega
      have HXL := Lib.hid (show LN[q]? = some (⟨first + F, first + T, GP, ntsOf p⟩ : Ln) by
        have h9 := HAT.out q l HLI.out
        have h8 := hGP
        unfold wdsL at h8
        rw [← List.map_drop, ← List.map_take, hp, HLB.out] at h8
        rw [← HF.out, HT.out, hp, h8] at h9
        exact h9)
      have HP := Lib.hid hp
      clear hGP hp
      have hqi : ((q : Int) == (ls.length : Int) - 1) = lb := hlb
      go_upto_region 12 with (fail)
      go_cut [14] (fun s14 wx => RlB wr (first + F) (first + T) GP s14 wx)
      case first =>
        have hS0 : (fun X : World => X.cell? ⟨be, oe + q, none⟩ = some (.int .i64 (T : Int))) wr.drew := HSC.out _ (HXr.out.trans (Ext.refl _).drew)
        refine wp_region_E (fun X : World => X.cell? ⟨be, oe + q, none⟩ = some (.int .i64 (T : Int))) (fun _ => True) (fun i => i == 25) (by kernel_rfl) ?_
        refine wpE_takeS (i := 0) (d := some 43) (v := .int .i64 first) rfl rfl (by kernel_rfl) (by kernel_rfl) (by kernel_rfl) (by kernel_rfl) (fun _ _ _ h => h) (by rfl) ?hya1 hS0 trivial ?goa1
        case hya1 =>
          intro w9 hT9
          clear hT9; go_simp
        (try simp only [Act.put, List.setIfInBounds_toArray, List.set_cons_zero, List.set_cons_succ])
        refine wpE_takeS (i := 1) (d := some 44) (v := .int .i64 (F : Int)) rfl rfl (by kernel_rfl) (by kernel_rfl) (by kernel_rfl) (by kernel_rfl) (fun _ _ _ h => h) (by rfl) ?hya2 hS0 trivial ?goa2
        case hya2 =>
          intro w9 hT9
          clear hT9; go_simp
        (try simp only [Act.put, List.setIfInBounds_toArray, List.set_cons_zero, List.set_cons_succ])
        refine wpE_takeS (i := 2) (d := some 45) (v := .int .i64 (first + F)) rfl rfl (by kernel_rfl) (by kernel_rfl) (by kernel_rfl) (by kernel_rfl) (fun _ _ _ h => h) (by rfl) ?hya3 hS0 trivial ?goa3
        case hya3 =>
          intro w9 hT9
          clear hT9; go_simp; exact IntWalk.i64_in _ (by omega)
        (try simp only [Act.put, List.setIfInBounds_toArray, List.set_cons_zero, List.set_cons_succ])
        refine wpE_takeS (i := 3) (d := some 46) (v := .int .i64 first) rfl rfl (by kernel_rfl) (by kernel_rfl) (by kernel_rfl) (by kernel_rfl) (fun _ _ _ h => h) (by rfl) ?hya4 hS0 trivial ?goa4
        case hya4 =>
          intro w9 hT9
          clear hT9; go_simp
        (try simp only [Act.put, List.setIfInBounds_toArray, List.set_cons_zero, List.set_cons_succ])
        refine wpE_takeS (i := 4) (d := some 47) (v := .slice (some ⟨be, oe, none⟩) ls.length ce) rfl rfl (by kernel_rfl) (by kernel_rfl) (by kernel_rfl) (by kernel_rfl) (fun _ _ _ h => h) (by rfl) ?hya5 hS0 trivial ?goa5
        case hya5 =>
          intro w9 hT9
          clear hT9; go_simp
        (try simp only [Act.put, List.setIfInBounds_toArray, List.set_cons_zero, List.set_cons_succ])
        refine wpE_takeS (i := 5) (d := some 48) (v := .int .i64 (q : Int)) rfl rfl (by kernel_rfl) (by kernel_rfl) (by kernel_rfl) (by kernel_rfl) (fun _ _ _ h => h) (by rfl) ?hya6 hS0 trivial ?goa6
        case hya6 =>
          intro w9 hT9
          clear hT9; go_simp
        (try simp only [Act.put, List.setIfInBounds_toArray, List.set_cons_zero, List.set_cons_succ])
        refine wpE_takeS (i := 6) (d := some 49) (v := .pointer (some ⟨be, oe + q, none⟩)) rfl rfl (by kernel_rfl) (by kernel_rfl) (by kernel_rfl) (by kernel_rfl) (fun _ _ _ h => h) (by rfl) ?hya7 hS0 trivial ?goa7
        case hya7 =>
          intro w9 hT9
          clear hT9; go_simp
        (try simp only [Act.put, List.setIfInBounds_toArray, List.set_cons_zero, List.set_cons_succ])
        refine wpE_takeS (i := 7) (d := some 50) (v := .int .i64 (T : Int)) rfl rfl (by kernel_rfl) (by kernel_rfl) (by kernel_rfl) (by kernel_rfl) (fun _ _ _ h => h) (by rfl) ?hya8 hS0 trivial ?goa8
        case hya8 =>
          intro w9 hT9
          have y0 : w9.cell? ⟨be, oe + q, none⟩ = some (.int .i64 (T : Int)) := hT9; go_simp
        (try simp only [Act.put, List.setIfInBounds_toArray, List.set_cons_zero, List.set_cons_succ])
        refine wpE_takeS (i := 8) (d := some 51) (v := .int .i64 (first + T)) rfl rfl (by kernel_rfl) (by kernel_rfl) (by kernel_rfl) (by kernel_rfl) (fun _ _ _ h => h) (by rfl) ?hya9 hS0 trivial ?goa9
        case hya9 =>
          intro w9 hT9
          clear hT9; go_simp; exact IntWalk.i64_in _ (by omega)
        (try simp only [Act.put, List.setIfInBounds_toArray, List.set_cons_zero, List.set_cons_succ])
        refine wpE_takeS (i := 9) (d := some 52) (v := .slice (some ⟨b7, o7, none⟩) i c7) rfl rfl (by kernel_rfl) (by kernel_rfl) (by kernel_rfl) (by kernel_rfl) (fun _ _ _ h => h) (by rfl) ?hya10 hS0 trivial ?goa10
        case hya10 =>
          intro w9 hT9
          clear hT9; go_simp
        (try simp only [Act.put, List.setIfInBounds_toArray, List.set_cons_zero, List.set_cons_succ])
        refine wpE_takeS (i := 10) (d := some 53) (v := .int .i64 (F : Int)) rfl rfl (by kernel_rfl) (by kernel_rfl) (by kernel_rfl) (by kernel_rfl) (fun _ _ _ h => h) (by rfl) ?hya11 hS0 trivial ?goa11
        case hya11 =>
          intro w9 hT9
          clear hT9; go_simp
        (try simp only [Act.put, List.setIfInBounds_toArray, List.set_cons_zero, List.set_cons_succ])
        refine wpE_takeS (i := 11) (d := some 54) (v := .slice (some ⟨be, oe, none⟩) ls.length ce) rfl rfl (by kernel_rfl) (by kernel_rfl) (by kernel_rfl) (by kernel_rfl) (fun _ _ _ h => h) (by rfl) ?hya12 hS0 trivial ?goa12
        case hya12 =>
          intro w9 hT9
          clear hT9; go_simp
        (try simp only [Act.put, List.setIfInBounds_toArray, List.set_cons_zero, List.set_cons_succ])
        refine wpE_takeS (i := 12) (d := some 55) (v := .int .i64 (q : Int)) rfl rfl (by kernel_rfl) (by kernel_rfl) (by kernel_rfl) (by kernel_rfl) (fun _ _ _ h => h) (by rfl) ?hya13 hS0 trivial ?goa13
        case hya13 =>
          intro w9 hT9
          clear hT9; go_simp
        (try simp only [Act.put, List.setIfInBounds_toArray, List.set_cons_zero, List.set_cons_succ])
        refine wpE_takeS (i := 13) (d := some 56) (v := .pointer (some ⟨be, oe + q, none⟩)) rfl rfl (by kernel_rfl) (by kernel_rfl) (by kernel_rfl) (by kernel_rfl) (fun _ _ _ h => h) (by rfl) ?hya14 hS0 trivial ?goa14
        case hya14 =>
          intro w9 hT9
          clear hT9; go_simp
        (try simp only [Act.put, List.setIfInBounds_toArray, List.set_cons_zero, List.set_cons_succ])
        refine wpE_takeS (i := 14) (d := some 57) (v := .int .i64 (T : Int)) rfl rfl (by kernel_rfl) (by kernel_rfl) (by kernel_rfl) (by kernel_rfl) (fun _ _ _ h => h) (by rfl) ?hya15 hS0 trivial ?goa15
        case hya15 =>
          intro w9 hT9
          have y0 : w9.cell? ⟨be, oe + q, none⟩ = some (.int .i64 (T : Int)) := hT9; go_simp
        (try simp only [Act.put, List.setIfInBounds_toArray, List.set_cons_zero, List.set_cons_succ])
        refine wpE_takeS (i := 15) (d := some 58) (v := .slice (some ⟨b7, o7 + F, none⟩) l (c7 - F)) rfl rfl (by kernel_rfl) (by kernel_rfl) (by kernel_rfl) (by kernel_rfl) (fun _ _ _ h => h) (by rfl) ?hya16 hS0 trivial ?goa16
        case hya16 =>
          intro w9 hT9
          exact exec_slice2 rfl rfl rfl rfl (HCUT.out w9)
        (try simp only [Act.put, List.setIfInBounds_toArray, List.set_cons_zero, List.set_cons_succ])
        refine wpE_takeS (i := 16) (d := some 59) (v := .int .i64 m) rfl rfl (by kernel_rfl) (by kernel_rfl) (by kernel_rfl) (by kernel_rfl) (fun _ _ _ h => h) (by rfl) ?hya17 hS0 trivial ?goa17
        case hya17 =>
          intro w9 hT9
          clear hT9; go_simp
        (try simp only [Act.put, List.setIfInBounds_toArray, List.set_cons_zero, List.set_cons_succ])
        refine wpE_takeS (i := 17) (d := some 60) (v := .int .i64 (q : Int)) rfl rfl (by kernel_rfl) (by kernel_rfl) (by kernel_rfl) (by kernel_rfl) (fun _ _ _ h => h) (by rfl) ?hya18 hS0 trivial ?goa18
        case hya18 =>
          intro w9 hT9
          clear hT9; go_simp
        (try simp only [Act.put, List.setIfInBounds_toArray, List.set_cons_zero, List.set_cons_succ])
        refine wpE_takeS (i := 18) (d := some 61) (v := .slice (some ⟨be, oe, none⟩) ls.length ce) rfl rfl (by kernel_rfl) (by kernel_rfl) (by kernel_rfl) (by kernel_rfl) (fun _ _ _ h => h) (by rfl) ?hya19 hS0 trivial ?goa19
        case hya19 =>
          intro w9 hT9
          clear hT9; go_simp
        (try simp only [Act.put, List.setIfInBounds_toArray, List.set_cons_zero, List.set_cons_succ])
        refine wpE_takeS (i := 19) (d := some 62) (v := .int .i64 (ls.length : Int)) rfl rfl (by kernel_rfl) (by kernel_rfl) (by kernel_rfl) (by kernel_rfl) (fun _ _ _ h => h) (by rfl) ?hya20 hS0 trivial ?goa20
        case hya20 =>
          intro w9 hT9
          clear hT9; go_simp
        (try simp only [Act.put, List.setIfInBounds_toArray, List.set_cons_zero, List.set_cons_succ])
        refine wpE_takeS (i := 20) (d := some 63) (v := .int .i64 ((ls.length : Int) - 1)) rfl rfl (by kernel_rfl) (by kernel_rfl) (by kernel_rfl) (by kernel_rfl) (fun _ _ _ h => h) (by rfl) ?hya21 hS0 trivial ?goa21
        case hya21 =>
          intro w9 hT9
          clear hT9; go_simp; exact IntWalk.i64_in _ (by omega)
        (try simp only [Act.put, List.setIfInBounds_toArray, List.set_cons_zero, List.set_cons_succ])
        refine wpE_takeS (i := 21) (d := some 64) (v := .bool lb) rfl rfl (by kernel_rfl) (by kernel_rfl) (by kernel_rfl) (by kernel_rfl) (fun _ _ _ h => h) (by rfl) ?hya22 hS0 trivial ?goa22
        case hya22 =>
          intro w9 hT9
          clear hT9; go_simp
        (try simp only [Act.put, List.setIfInBounds_toArray, List.set_cons_zero, List.set_cons_succ])
        refine wpE_all (rs := [22, 24]) (by kernel_rfl) (by simp) ?_
        refine AllE.cons rfl (fun K hK => ?_) (AllE.cons rfl (fun K hK => ?_) AllE.nil)
        · skip
          simp only [List.getElem_toArray, List.getElem_cons_succ, List.getElem_cons_zero]
          go_simp
          go_at_call 213
          refine (HGP.out _ (HXr.out.trans (Ext.refl _).drew)).mono ?_
          rintro z9 wG ⟨Ag, cg, rfl, hog, hxG⟩
          have hcur : Ext wr wG := (Ext.refl _).drew.trans hxG
          simp only []
          refine hK.out _ _ ⟨fun _ => (HSC.out _ (HXr.out.trans hcur)), trivial⟩ (fun _ => ?_)
          clear hK K
          have hS0 := (HSC.out _ (HXr.out.trans hcur))
          (try simp only [Act.put, List.setIfInBounds_toArray, List.set_cons_zero, List.set_cons_succ])
          refine wpE_takeS (i := 23) (d := some 66) (v := .agg #[.int .i64 (first + F), .int .i64 (first + T), .slice Ag GP.length cg, .slice none 0 0]) rfl rfl (by kernel_rfl) (by kernel_rfl) (by kernel_rfl) (by kernel_rfl) (fun _ _ _ h => h) (by rfl) ?hya23 hS0 trivial ?goa23
          case hya23 =>
            intro w9 hT9
            clear hT9; go_simp
          (try simp only [Act.put, List.setIfInBounds_toArray, List.set_cons_zero, List.set_cons_succ])
          refine wpE_all (rs := [24]) (by kernel_rfl) (by simp) ?_
          refine AllE.cons rfl (fun K hK => ?_) AllE.nil
          simp only [List.getElem_toArray, List.getElem_cons_succ, List.getElem_cons_zero]
          go_simp
          refine hK.out _ _ ⟨fun _ => (HSC.out _ (HXr.out.trans (hcur.alloc (.cells #[.int .i64 0, .int .i64 0, .slice none 0 0, .slice none 0 0] 86)))), trivial⟩ (fun _ => ?_)
          clear hK K
          have hS0 := (HSC.out _ (HXr.out.trans (hcur.alloc (.cells #[.int .i64 0, .int .i64 0, .slice none 0 0, .slice none 0 0] 86))))
          (try simp only [Act.put, List.setIfInBounds_toArray, List.set_cons_zero, List.set_cons_succ])
          obtain ⟨A8, c8, e8, _, hog2⟩ := own_rowN (Q := fun j => wr.heap.size ≤ j) (own_int (P := fun j => wr.heap.size ≤ j) hog) (fun j hj _ => hj) (fun j hj _ => hj)
          rw [← (Value.slice.inj e8).1] at hog2
          refine wpE_all (rs := [25]) (by kernel_rfl) (by simp) ?_
          refine AllE.cons rfl (fun K hK => ?_) AllE.nil
          simp only [List.getElem_toArray, List.getElem_cons_succ, List.getElem_cons_zero]
          obtain ⟨A9, c9, e9, h9, hr9⟩ := Lay.own_row hog
          obtain ⟨e9a, _, e9c⟩ := Value.slice.inj e9
          rw [← e9c] at h9
          have HFIN := Lib.hid (show RlB wr (first + F) (first + T) GP (.pointer (some ⟨wG.heap.size, 0, none⟩)) (wG.alloc (.cells #[.int .i64 (first + F), .int .i64 (first + T), .slice Ag GP.length cg, .slice none 0 0] 86)) from ⟨_, Ag, cg, rfl, hcur.lt, h9, heap_alloc_at _ _ _ _ rfl, Lay.row_ext (Lay.row_mono hog2 fun j hj hl => ⟨hj, by omega⟩) ((Ext.refl _).alloc _), hcur.alloc _⟩)
          clear e9 e9a e9c h9 hr9
          go_simp
          refine hK.out _ _ ⟨fun h => absurd h (by simp), trivial⟩ (fun _ => ?_)
          clear hK K
          (try simp only [Act.put, List.setIfInBounds_toArray, List.set_cons_zero, List.set_cons_succ])
          refine wpE_done (by kernel_rfl) ?_ _
          go_wp2_with fail
          go_meet
          case rel => exact HFIN.out
        · skip
          simp only [List.getElem_toArray, List.getElem_cons_succ, List.getElem_cons_zero]
          go_simp
          refine hK.out _ _ ⟨fun _ => (HSC.out _ (HXr.out.trans ((Ext.refl wr).drew.alloc (.cells #[.int .i64 0, .int .i64 0, .slice none 0 0, .slice none 0 0] 86)))), trivial⟩ (fun _ => ?_)
          clear hK K
          have hS0 := (HSC.out _ (HXr.out.trans ((Ext.refl wr).drew.alloc (.cells #[.int .i64 0, .int .i64 0, .slice none 0 0, .slice none 0 0] 86))))
          (try simp only [Act.put, List.setIfInBounds_toArray, List.set_cons_zero, List.set_cons_succ])
          refine wpE_all (rs := [22]) (by kernel_rfl) (by simp) ?_
          refine AllE.cons rfl (fun K hK => ?_) AllE.nil
          simp only [List.getElem_toArray, List.getElem_cons_succ, List.getElem_cons_zero]
          go_simp
          go_at_call 213
          refine (HGP.out _ (HXr.out.trans ((Ext.refl wr).drew.alloc (.cells #[.int .i64 0, .int .i64 0, .slice none 0 0, .slice none 0 0] 86)))).mono ?_
          rintro z9 wG ⟨Ag, cg, rfl, hog, hxG⟩
          have hcur : Ext wr wG := ((Ext.refl wr).drew.alloc (.cells #[.int .i64 0, .int .i64 0, .slice none 0 0, .slice none 0 0] 86)).trans hxG
          simp only []
          refine hK.out _ _ ⟨fun _ => (HSC.out _ (HXr.out.trans hcur)), trivial⟩ (fun _ => ?_)
          clear hK K
          have hS0 := (HSC.out _ (HXr.out.trans hcur))
          (try simp only [Act.put, List.setIfInBounds_toArray, List.set_cons_zero, List.set_cons_succ])
          refine wpE_takeS (i := 23) (d := some 66) (v := .agg #[.int .i64 (first + F), .int .i64 (first + T), .slice Ag GP.length cg, .slice none 0 0]) rfl rfl (by kernel_rfl) (by kernel_rfl) (by kernel_rfl) (by kernel_rfl) (fun _ _ _ h => h) (by rfl) ?hya24 hS0 trivial ?goa24
          case hya24 =>
            intro w9 hT9
            clear hT9; go_simp
          (try simp only [Act.put, List.setIfInBounds_toArray, List.set_cons_zero, List.set_cons_succ])
          have hsz9 : wr.heap.size < wr.drew.heap.size + 1 := Nat.lt_succ_self _
          obtain ⟨A8, c8, e8, _, hog2⟩ := own_rowN (Q := fun j => wr.heap.size < j) (own_int (P := fun j => wr.heap.size < j) hog) (fun j hj _ => hj) (fun j hj _ => by rw [World.size_alloc] at hj; omega)
          rw [← (Value.slice.inj e8).1] at hog2
          refine wpE_all (rs := [25]) (by kernel_rfl) (by simp) ?_
          refine AllE.cons rfl (fun K hK => ?_) AllE.nil
          simp only [List.getElem_toArray, List.getElem_cons_succ, List.getElem_cons_zero]
          have hV : wG.heap[wr.heap.size]? = some (.cells #[.int .i64 0, .int .i64 0, .slice none 0 0, .slice none 0 0] 86 (0, 0)) := (hxG.block _ (by rw [World.size_alloc]; exact hsz9)).trans (heap_alloc_at wr.drew _ _ _ rfl)
          obtain ⟨A9, c9, e9, h9, hr9⟩ := Lay.own_row hog
          obtain ⟨e9a, _, e9c⟩ := Value.slice.inj e9
          rw [← e9a] at hr9
          rw [← e9c] at h9
          have HFIN := Lib.hid (rl_box hV (by exact Nat.le_refl _) hcur (Lay.row_ext (Lay.row_mono (Q := fun j => wr.heap.size ≤ j ∧ j ≠ wr.heap.size) hog2 fun j hj hl => ⟨Nat.le_of_lt hj, by omega⟩) (Ext.refl _)) h9 (first + F) (first + T))
          have f0 := frozen_of hV 0
          have f1 := frozen_of hV 1
          have f2 := frozen_of hV 2
          have f3 := frozen_of hV 3
          have v0 := cell_of hV (i := 0) (u := .int .i64 0) rfl
          have v1 := cell_of hV (i := 1) (u := .int .i64 0) rfl
          have v2 := cell_of hV (i := 2) (u := .slice none 0 0) rfl
          have v3 := cell_of hV (i := 3) (u := .slice none 0 0) rfl
          clear hV e9 e9a e9c h9 hr9
          go_simp
          refine hK.out _ _ ⟨fun h => absurd h (by simp), trivial⟩ (fun _ => ?_)
          clear hK K
          (try simp only [Act.put, List.setIfInBounds_toArray, List.set_cons_zero, List.set_cons_succ])
          refine wpE_done (by kernel_rfl) ?_ _
          go_wp2_with fail
          go_meet
          case rel => exact HFIN.out
      case rest =>
        obtain ⟨bl, Ag, cg, rfl, hwb, hgc, hbx, hrg, hx4⟩ := hcut
        rename World => w4
        have HX4 := Lib.hid hx4
        have HB4 := Lib.hid hbx
        have HRG := Lib.hid hrg
        have hbl4 := lt_of_block hbx
        have HX24 := Lib.hid (HXr.out.trans hx4)
        clear hx4 hbx hrg hcell
        go_wp2_with fail
        go_loopw [15] (fun s15 w' => RlN w4 bl (first + F) (first + T) (.slice Ag GP.length cg) p F s15 w') (fun s15 _ => toM T s15)
        case atStart => exact ⟨0, F, _, by omega, by omega, rfl, Mv.refl _ _, HB4.out, Lay.own_nil _ _ _ _ _⟩
        case round =>
          obtain ⟨j, k, nv, hj, hkF, rfl, hmv2, hbx, hon⟩ := hrel
          rename World => wv
          have HM2 := Lib.hid hmv2
          have HBX := Lib.hid hbx
          have HON := Lib.hid hon
          have HX2v := Lib.hid (hmv2.ext w2 (Nat.le_trans HXr.out.lt hwb) HX24.out)
          have hcell := HSC.out _ HX2v.out
          have k0 := cell_of hbx (i := 0) (u := .int .i64 (first + F)) rfl
          have k1 := cell_of hbx (i := 1) (u := .int .i64 (first + T)) rfl
          have k2 := cell_of hbx (i := 2) (u := .slice Ag GP.length cg) rfl
          have k3 := cell_of hbx (i := 3) (u := nv) rfl
          have HKF := Lib.hid hkF
          clear hmv2 hbx hon
          by_cases hjl : j < l
          case neg =>
            obtain rfl : l = j := by omega
            obtain rfl : k = T := by have := HT.out; omega
            have hnj : ¬ ((k : Int) < (k : Int)) := by omega
            obtain ⟨An, cn, rfl, hcn, hrn⟩ := own_rowN (P := fun q => w4.heap.size ≤ q) (Q := fun q => w4.heap.size ≤ q) (own_int HON.out) (fun q hq _ => hq) (fun q hq _ => hq)
            have hll : (LN.take q).length = q := by rw [List.length_take, HLN.out]; omega
            have hlto := Lay.own_lt HOr.out
            have htl : p.take l = p := List.take_of_length_le (by omega)
            rw [htl] at hrn
            have HOX : kLn.own 86 wv w2.heap.size (fun j => w2.heap.size ≤ j) (.slice A11 q c11) (LN.take q) := Lay.own_keep HOr.out (Nat.le_trans HX4.out.lt HM2.out.size) fun e _ he => (HM2.out.keep e (by omega) (Nat.lt_of_lt_of_le he HX4.out.lt)).trans (HX4.out.block e he)
            have hrp : kLn.rep wv (fun j => w2.heap.size ≤ j ∧ (Value.slice A11 q c11).ownBlock ≠ some j) (⟨first + F, first + k, GP, ntsOf p⟩ : Ln) [.int .i64 (first + F), .int .i64 (first + k), .slice Ag GP.length cg, .slice An (ntsOf p).length cn] :=
              kLn_rep.2 ⟨Ag, _, cg, An, _, cn, rfl, hgc, by rw [htl] at hcn; exact hcn, Lay.row_mono (Lay.row_keep HRG.out HM2.out.size fun e he hl => HM2.out.keep e he.2 hl) fun e he hl => ⟨by have := HXr.out.lt; omega, fun e9 => by have := hlto e e9; omega⟩, Lay.row_mono hrn fun e he hl => ⟨by have := HXr.out.lt; have := HX4.out.lt; omega, fun e9 => by have := hlto e e9; have := HX4.out.lt; omega⟩⟩
            obtain ⟨A9, c9, w9, hrun, ho9, hb9, _, _, _⟩ := own_app1 (k := kLn) (Pr := Tryz.prog) (t := 82) Tryz.underlying82 info86 rfl (by decide) (by omega) HOX HX2v.out.lt (cs := #[.int .i64 (first + F), .int .i64 (first + k), .slice Ag GP.length cg, .slice An (ntsOf p).length cn]) (T := 86) (x := (⟨first + F, first + k, GP, ntsOf p⟩ : Ln)) hrp 1 (by rw [hll]; omega)
            rw [hll] at hrun ho9
            have hx9 : Ext w2 w9 := Below.trans HX2v.out (hb9 _ (Nat.le_refl _))
            have hcell9 := HSC.out _ hx9
            have HRUN := Lib.hid hrun
            have HREL := Lib.hid (show RlL w2 ls LN (.slice A9 (q + 1) c9) (.int .i64 (k : Int)) (.int .i64 ((q : Int) + 1)) w9 from ⟨q + 1, k, A9, c9, by omega, by simp, rfl, by rw [sum_take_succ ls HLI.out, ← HF.out, HT.out], rfl, hx9, by
              rw [List.take_add_one, HXL.out]
              exact ho9⟩)
            rw [htl] at k3
            clear hll hlto htl hrn HOX hrp hrun ho9 hb9 hx9 hcn hkF
            go_wp2_with (first | (at_builtin; refine wpList_append_run (s := .tmp 93) (x := .tmp 95) HRUN.out rfl rfl rfl rfl rfl ?_))
            go_roundw
            case rel => exact HREL.out
            case measure => simp only [toM]; omega
          have hkT : k < T := by have := HT.out; omega
          have hK : (k : Int) < (T : Int) := by omega
          have hKi : (k : Int) < (i : Int) := by omega
          obtain ⟨x, hxk⟩ : ∃ x, ws[k]? = some x := ⟨_, List.getElem?_eq_getElem (by have := HL.out; omega)⟩
          have hxj : p[j]? = some x := by rw [← HP.out, List.getElem?_take, if_pos hjl, List.getElem?_drop, ← hkF]; exact hxk
          obtain ⟨b9, o9, cs9, e9, hb9, hb9l, hrep, hcell9⟩ := Lay.row_at (Lay.row_ext HRS.out HX2v.out) hxk
          have e9b : b0 = b9 ∧ off = o9 := by
            have := Option.some.inj e9
            exact ⟨congrArg Addr.block this, congrArg Addr.off this⟩
          obtain ⟨rfl, rfl⟩ := e9b
          rw [kWd_rep] at hrep
          subst hrep
          have c3' := hcell9 3 _ rfl
          rw [kWd_sz] at c3'
          have hxv := (HV.out x (List.mem_of_getElem? hxk)).2
          have HNS := Lib.hid (ntsOf_succ p hxj)
          have hnl := ntsOf_len (p.take j)
          rw [List.length_take] at hnl
          obtain ⟨x1, x2, x3, x4⟩ := x
          clear hcell9 hxj hxk hkF e9
          simp only at c3' hxv HNS
          by_cases hx4 : x4 = 0
          · subst hx4
            go_wp2_with fail
            go_roundw
            case rel =>
              refine ⟨j + 1, k + 1, nv, by omega, by have := HKF.out; omega, by simp, HM2.out, HBX.out, ?_⟩
              rw [HNS.out, if_neg (by simp), List.append_nil]
              exact HON.out
            case measure => simp only [toM]; omega
          · rw [if_pos hx4] at HNS
            have hx4b : (x4 == 0) = false := by rw [beq_eq_false_iff_ne]; exact hx4
            have i1 : IntKind.i64.wrap (x4 - 1) = x4 - 1 := IntWalk.i64_in _ (by omega)
            have hlto := Lay.own_lt HON.out
            have HOND : kInt.own 3 wv.drew w4.heap.size (fun _ => True) nv (ntsOf (p.take j)) := Lay.own_keep HON.out (Nat.le_refl _) fun _ _ _ => rfl
            obtain ⟨A9, c9, w9, hrun, ho9, hb9', hk9, hs9, hn9⟩ := own_app1 (k := kInt) (Pr := Tryz.prog) (t := 22) Tryz.underlying22 info3 rfl (by decide) (by omega) HOND HM2.out.size (cs := #[.int .i64 (x4 - 1)]) (T := 3) (x := x4 - 1) rfl 1 (by omega)
            have hbl2 := lt_of_block HBX.out
            have hM9 : Mv bl w4 w9 := HM2.out.app (fun q hq => hk9 q (Nat.lt_of_lt_of_le hq HM2.out.size) fun e => by have := (hlto q e).1; omega) hs9 fun B hB => Below.trans ((Below.refl B wv).drew) (hb9' B hB)
            have hb99 : w9.heap[bl]? = some (.cells #[.int .i64 (first + F), .int .i64 (first + T), .slice Ag GP.length cg, nv] 86 (0, 0)) := (hk9 bl hbl2 fun e => by have := (hlto bl e).1; omega).trans HBX.out
            have hown9 : kInt.own 3 (w9.setCell ⟨bl, 3, none⟩ (.slice A9 ((ntsOf (p.take j)).length + 1) c9)) w4.heap.size (fun _ => True) (.slice A9 ((ntsOf (p.take j)).length + 1) c9) (ntsOf (p.take (j + 1))) := by
              rw [HNS.out]
              exact own_int (P := fun _ => False) (Lay.own_keep (own_int ho9) (by simp) fun q hq hl => by
                rcases hq with hq | hq
                · exact hq.elim
                · have := (Lay.own_lt ho9 q hq).1
                  exact heap_setCell_other _ ⟨bl, 3, none⟩ q _ (by show q ≠ bl; omega))
            have hbl9 : (w9.setCell ⟨bl, 3, none⟩ (.slice A9 ((ntsOf (p.take j)).length + 1) c9)).heap[bl]? = some (.cells #[.int .i64 (first + F), .int .i64 (first + T), .slice Ag GP.length cg, .slice A9 ((ntsOf (p.take j)).length + 1) c9] 86 (0, 0)) := by
              rw [heap_setCell_same _ bl 3 _ 86 _ hb99]
              rfl
            have HREL := Lib.hid (show RlN w4 bl (first + F) (first + T) (.slice Ag GP.length cg) p F (.int .i64 ((k : Int) + 1)) (w9.setCell ⟨bl, 3, none⟩ (.slice A9 ((ntsOf (p.take j)).length + 1) c9)) from ⟨j + 1, k + 1, _, by omega, by have := HKF.out; omega, by simp, hM9.trans (Mv.set _), hbl9, hown9⟩)
            have HRUN := Lib.hid (show (Builtin.append_ #[22, 22] 22 #[nv, .slice (some ⟨wv.heap.size, 0, none⟩) 1 1]).run Tryz.prog (wv.drew.alloc (.cells #[.int .i64 (x4 - 1)] 3)) = .ok (.slice A9 ((ntsOf (p.take j)).length + 1) c9) w9 from hrun)
            have hx9 : Ext w2 w9 := hM9.ext w2 (Nat.le_trans HXr.out.lt hwb) HX24.out
            have hb0w : b0 < w2.heap.size := by
              obtain ⟨_, _, _, e8, h8, _⟩ := Lay.row_at HRS.out (show ws[F]? = some (ws[F]'(by have := HL.out; omega)) from List.getElem?_eq_getElem _)
              have := congrArg Addr.block (Option.some.inj e8)
              simp only at this
              omega
            have HB99 := Lib.hid hb99
            have HC0 := Lib.hid (show (fun X : World => X.cell? ⟨bl, 3, none⟩ = some nv ∧ X.cell? ⟨b0, off + k * 4 + 3, none⟩ = some (.int .i64 x4)) wv from ⟨k3, c3'⟩)
            have HC1 := Lib.hid (show (fun X : World => X.cell? ⟨bl, 3, none⟩ = some nv ∧ X.cell? ⟨b0, off + k * 4 + 3, none⟩ = some (.int .i64 x4)) (wv.drew.alloc (.cells #[.int .i64 (x4 - 1)] 3)) from
              have hx : Ext wv (wv.drew.alloc (.cells #[.int .i64 (x4 - 1)] 3)) := (Ext.refl wv).drew.alloc _
              ⟨(hx.cells.1 bl _ hbl2).trans k3, (hx.cells.1 b0 _ hb9).trans c3'⟩)
            have HC9 := Lib.hid (show (fun X : World => X.cell? ⟨bl, 3, none⟩ = some nv ∧ X.cell? ⟨b0, off + k * 4 + 3, none⟩ = some (.int .i64 x4)) w9 from
              ⟨cell_of hb99 (i := 3) rfl, by
                have h1 := hx9.cells.1 b0 (off + k * 4 + 3) hb0w
                have h2 := HX2v.out.cells.1 b0 (off + k * 4 + 3) hb0w
                exact h1.trans (h2.symm.trans c3')⟩)
            clear hlto HOND ho9 hb9' hk9 hn9 hM9 hb99 hown9 hbl9 hrun hs9 hx9 hxv hnl
            go_upto_region 17 with (fail)
            have hS0 : (fun X : World => X.cell? ⟨bl, 3, none⟩ = some nv ∧ X.cell? ⟨b0, off + k * 4 + 3, none⟩ = some (.int .i64 x4)) wv.drew := HC0.out
            refine wp_region_E (fun X : World => X.cell? ⟨bl, 3, none⟩ = some nv ∧ X.cell? ⟨b0, off + k * 4 + 3, none⟩ = some (.int .i64 x4)) (fun _ => True) (fun i => i == 11) (by kernel_rfl) ?_
            refine wpE_takeS (i := 0) (d := some 82) (v := .pointer (some ⟨bl, 3, none⟩)) rfl rfl (by kernel_rfl) (by kernel_rfl) (by kernel_rfl) (by kernel_rfl) (fun _ _ _ h => h) (by rfl) ?hyb1 hS0 trivial ?gob1
            case hyb1 =>
              intro w9 hT9
              clear hT9; go_simp
            (try simp only [Act.put, List.setIfInBounds_toArray, List.set_cons_zero, List.set_cons_succ])
            refine wpE_takeS (i := 1) (d := some 83) (v := nv) rfl rfl (by kernel_rfl) (by kernel_rfl) (by kernel_rfl) (by kernel_rfl) (fun _ _ _ h => h) (by rfl) ?hyb2 hS0 trivial ?gob2
            case hyb2 =>
              intro w9 hT9
              obtain ⟨y0, y1⟩ := hT9; go_simp
            (try simp only [Act.put, List.setIfInBounds_toArray, List.set_cons_zero, List.set_cons_succ])
            refine wpE_takeS (i := 2) (d := some 84) (v := .slice (some ⟨b0, off, none⟩) i c) rfl rfl (by kernel_rfl) (by kernel_rfl) (by kernel_rfl) (by kernel_rfl) (fun _ _ _ h => h) (by rfl) ?hyb3 hS0 trivial ?gob3
            case hyb3 =>
              intro w9 hT9
              clear hT9; go_simp
            (try simp only [Act.put, List.setIfInBounds_toArray, List.set_cons_zero, List.set_cons_succ])
            refine wpE_takeS (i := 3) (d := some 85) (v := .int .i64 (k : Int)) rfl rfl (by kernel_rfl) (by kernel_rfl) (by kernel_rfl) (by kernel_rfl) (fun _ _ _ h => h) (by rfl) ?hyb4 hS0 trivial ?gob4
            case hyb4 =>
              intro w9 hT9
              clear hT9; go_simp
            (try simp only [Act.put, List.setIfInBounds_toArray, List.set_cons_zero, List.set_cons_succ])
            refine wpE_takeS (i := 4) (d := some 86) (v := .pointer (some ⟨b0, off + k * 4, none⟩)) rfl rfl (by kernel_rfl) (by kernel_rfl) (by kernel_rfl) (by kernel_rfl) (fun _ _ _ h => h) (by rfl) ?hyb5 hS0 trivial ?gob5
            case hyb5 =>
              intro w9 hT9
              clear hT9; go_simp
            (try simp only [Act.put, List.setIfInBounds_toArray, List.set_cons_zero, List.set_cons_succ])
            refine wpE_takeS (i := 5) (d := some 87) (v := .pointer (some ⟨b0, off + k * 4 + 3, none⟩)) rfl rfl (by kernel_rfl) (by kernel_rfl) (by kernel_rfl) (by kernel_rfl) (fun _ _ _ h => h) (by rfl) ?hyb6 hS0 trivial ?gob6
            case hyb6 =>
              intro w9 hT9
              clear hT9; go_simp
            (try simp only [Act.put, List.setIfInBounds_toArray, List.set_cons_zero, List.set_cons_succ])
            refine wpE_takeS (i := 6) (d := some 88) (v := .int .i64 x4) rfl rfl (by kernel_rfl) (by kernel_rfl) (by kernel_rfl) (by kernel_rfl) (fun _ _ _ h => h) (by rfl) ?hyb7 hS0 trivial ?gob7
            case hyb7 =>
              intro w9 hT9
              obtain ⟨y0, y1⟩ := hT9; go_simp
            (try simp only [Act.put, List.setIfInBounds_toArray, List.set_cons_zero, List.set_cons_succ])
            refine wpE_takeS (i := 7) (d := some 89) (v := .int .i64 (x4 - 1)) rfl rfl (by kernel_rfl) (by kernel_rfl) (by kernel_rfl) (by kernel_rfl) (fun _ _ _ h => h) (by rfl) ?hyb8 hS0 trivial ?gob8
            case hyb8 =>
              intro w9 hT9
              clear hT9; go_simp
            (try simp only [Act.put, List.setIfInBounds_toArray, List.set_cons_zero, List.set_cons_succ])
            refine wpE_all (rs := [8]) (by kernel_rfl) (by simp) ?_
            refine AllE.cons rfl (fun K hK => ?_) AllE.nil
            simp only [List.getElem_toArray, List.getElem_cons_succ, List.getElem_cons_zero]
            go_simp
            refine hK.out _ _ ⟨fun _ => HC1.out, trivial⟩ (fun _ => ?_)
            clear hK K
            have hS0 := HC1.out
            (try simp only [Act.put, List.setIfInBounds_toArray, List.set_cons_zero, List.set_cons_succ])
            refine wpE_all (rs := [9]) (by kernel_rfl) (by simp) ?_
            refine AllE.cons rfl (fun K hK => ?_) AllE.nil
            simp only [List.getElem_toArray, List.getElem_cons_succ, List.getElem_cons_zero]
            refine step_append_tm (s := .tmp 83) (x := .tmp 90) HRUN.out rfl rfl rfl rfl rfl ?_
            refine hK.out _ _ ⟨fun _ => HC9.out, trivial⟩ (fun _ => ?_)
            clear hK K
            have hS0 := HC9.out
            (try simp only [Act.put, List.setIfInBounds_toArray, List.set_cons_zero, List.set_cons_succ])
            refine wpE_takeS (i := 10) (d := some 92) (v := .pointer (some ⟨bl, 3, none⟩)) rfl rfl (by kernel_rfl) (by kernel_rfl) (by kernel_rfl) (by kernel_rfl) (fun _ _ _ h => h) (by rfl) ?hyb9 hS0 trivial ?gob9
            case hyb9 =>
              intro w9 hT9
              clear hT9; go_simp
            (try simp only [Act.put, List.setIfInBounds_toArray, List.set_cons_zero, List.set_cons_succ])
            refine wpE_all (rs := [11]) (by kernel_rfl) (by simp) ?_
            refine AllE.cons rfl (fun K hK => ?_) AllE.nil
            simp only [List.getElem_toArray, List.getElem_cons_succ, List.getElem_cons_zero]
            have z5 := HC9.out.1
            have z6 := frozen_of HB99.out 3
            go_simp
            refine hK.out _ _ ⟨fun h => absurd h (by simp), trivial⟩ (fun _ => ?_)
            clear hK K
            (try simp only [Act.put, List.setIfInBounds_toArray, List.set_cons_zero, List.set_cons_succ])
            refine wpE_done (by kernel_rfl) ?_ _
            go_wp2_with fail
            go_roundw
            case rel => exact HREL.out
            case measure => simp only [toM]; omega
end Go.Proofs.YtdbnddmncbjobaaGreatDoor

/- The reference's Lines: walked. -/
namespace Go.Proofs.YtdbnddmncbjobaaGreatDoor
open Go Go.RowKit

set_option maxHeartbeats 8000000 in
set_option maxRecDepth 100000 in
theorem rlines2_any (P : Nat → Prop) (w : World) (t : Tx) (m : Int) (A A' : Option Addr) (n n' c c' : Nat) (h1 : kWs.row w P A n t.paras) (h2 : kWs.row w P A' n' t.notes) (hc : chkT t = 0) (hm0 : 500 ≤ m) (hm : m ≤ 2000) :
    Calls Tryz.prog 145 #[.agg #[.slice A n c, .slice A' n' c'], .int .i64 m] w (fun e w' => ∃ A1 c1 A2 c2, e = .returned (.tuple #[.slice A1 (linesT t m).2.1.length c1, .slice A2 (linesT t m).2.2.length c2, .int .i64 0]) ∧
      kLn.own 86 w' w.heap.size (fun j => w.heap.size ≤ j) (.slice A1 (linesT t m).2.1.length c1) (linesT t m).2.1 ∧ kLs.own 82 w' w.heap.size (fun j => w.heap.size ≤ j) (.slice A2 (linesT t m).2.2.length c2) (linesT t m).2.2 ∧ Ext w w') := by
  have HE1 := Lib.hid (Lay.row_len h1)
  have HE2 := Lib.hid (Lay.row_len h2)
  have HR1 := Lib.hid h1
  have HR2 := Lib.hid h2
  have HV := Lib.hid (wsv_of hc)
  have HCK := Lib.hid (fun X (hX : Ext w X) => rcheck_any P X t A A' n n' c c' (Lay.row_ext h1 hX) (Lay.row_ext h2 hX) hc)
  have HT := Lib.hid (show linesT t m = (0, (setsP m t.paras 0).flatten, setsP m t.notes (t.paras.map List.length).sum) by
    unfold linesT
    rw [if_neg (by omega), if_neg (by omega)])
  have hnp := (chkT_val hc).np
  have hnn := (chkT_val hc).nn
  have m1 : ¬ m < 500 := by omega
  have m2 : ¬ (2000 : Int) < m := by omega
  clear h1 h2 hc
  go_enter Tryz.func145, Tryz.ntmps145
  go_upto_region 1 with (fail)
  obtain ⟨W0, hW0⟩ : ∃ W0, w.alloc (.cells #[.slice A n c, .slice A' n' c'] 53) = W0 := ⟨_, rfl⟩
  obtain ⟨z, hz⟩ : ∃ z, w.heap.size = z := ⟨_, rfl⟩
  have hx0 : Ext w W0 := by rw [← hW0]; exact (Ext.refl w).alloc _
  have hB0 : W0.heap[z]? = some (.cells #[.slice A n c, .slice A' n' c'] 53 (0, 0)) := by rw [← hW0, ← hz]; exact heap_alloc_at _ _ _ _ rfl
  rw [hW0, hz]
  have HX0 := Lib.hid hx0
  have HCA := Lib.hid (fun X (hX : Ext W0 X) => (show X.cell? ⟨z, 0, none⟩ = some (.slice A n c) ∧ X.cell? ⟨z, 1, none⟩ = some (.slice A' n' c') from
    have h9 := (hX.block _ (lt_of_block hB0)).trans hB0
    ⟨cell_of h9 (i := 0) rfl, cell_of h9 (i := 1) rfl⟩))
  have a0 := (HCA.out W0 (Ext.refl _)).1
  have a1 := (HCA.out W0 (Ext.refl _)).2
  clear hW0 hz hx0 hB0
  go_wp2_with (first | (go_at_call 178; refine (HCK.out _ HX0.out).mono ?_; rintro e w1 ⟨rfl, hx1⟩))
  have HX1 := Lib.hid hx1
  have HX := Lib.hid (HX0.out.trans hx1)
  clear a0 a1 hx1
  go_loopw [8, 9, 10] (fun s8 s9 s10 w' => LiB w1 m t.paras s8 s9 s10 w') (fun _ _ s10 _ => toM n s10)
  case atStart => exact ⟨0, 0, by omega, rfl, rfl, rfl, Ext.refl _, Lay.own_nil _ _ _ _ _⟩
  case round =>
    obtain ⟨i, F, hi, rfl, rfl, hF, hx, ho⟩ := hrel
    have HXr := Lib.hid hx
    have HO := Lib.hid ho
    have HF := Lib.hid hF
    obtain ⟨c0, c1⟩ := HCA.out _ (HX1.out.trans hx)
    clear hx ho hF
    by_cases hlt : i < n
    case neg =>
      obtain rfl : n = i := by have := HE1.out; omega
      have hni : ¬ ((n : Int) < (n : Int)) := by omega
      obtain ⟨A1, c1', rfl, hl1, _⟩ := Lay.own_row HO.out
      have HTK := Lib.hid (show t.paras.take n = t.paras by rw [HE1.out]; exact List.take_length)
      rw [HTK.out] at HO HF hl1
      have hww := Nat.le_trans HX.out.lt HXr.out.lt
      have HB := Lib.hid (show kLn.own 86 wr w.heap.size (fun j => w.heap.size ≤ j ∧ j < wr.heap.size) (.slice A1 (setsP m t.paras 0).flatten.length c1') (setsP m t.paras 0).flatten from own_base (Lay.own_mono HO.out fun j hj hl => ⟨Nat.le_trans HX.out.lt hj, hl⟩) HX.out.lt)
      go_wp2_with fail
      obtain ⟨wb, hwb⟩ : ∃ wb, wb = wr := ⟨_, rfl⟩
      rw [← hwb] at HXr HB hww ⊢
      clear hwb HO
      go_loopw [9, 11, 12] (fun s9 s11 s12 w' => LiN wb m t.notes F s11 s9 s12 w') (fun _ _ s12 _ => toM n' s12)
      case atStart => exact ⟨0, F, by omega, rfl, rfl, by simp, Ext.refl _, Lay.own_nil _ _ _ _ _⟩
      case round =>
        clear c0 c1
        obtain ⟨i, F', hi, rfl, rfl, hF', hx, ho⟩ := hrel
        have HXn := Lib.hid hx
        have HOn := Lib.hid ho
        have HF' := Lib.hid hF'
        obtain ⟨c0, c1⟩ := HCA.out _ (HX1.out.trans (HXr.out.trans hx))
        clear hx ho hF'
        by_cases hlt2 : i < n'
        case neg =>
          obtain rfl : n' = i := by have := HE2.out; omega
          have hni : ¬ ((n' : Int) < (n' : Int)) := by omega
          obtain ⟨A2, c2, rfl, _⟩ := Lay.own_row HOn.out
          have HTN := Lib.hid (show t.notes.take n' = t.notes by rw [HE2.out]; exact List.take_length)
          rw [HTN.out] at HOn
          go_wp2_with fail
          refine bodyPost_ret (v := .tuple #[.slice A1 (setsP m (t.paras.take n) 0).flatten.length c1', .slice A2 (setsP m (t.notes.take n') F).length c2, .int .i64 0]) (by simp [results, Tryz.results145, go_sem, *]) rfl ?_
          rw [HTN.out, HTK.out, HF.out]
          have hT := HT.out
          rw [HF.out] at HOn
          have e1 : (linesT t m).2.1 = (setsP m t.paras 0).flatten := by rw [hT]
          have e2 : (linesT t m).2.2 = setsP m t.notes (t.paras.map List.length).sum := by rw [hT]
          rw [e1, e2]
          exact ⟨A1, c1', A2, c2, rfl, Lay.own_mono (Lay.own_keep HB.out HXn.out.lt fun j hj hl => HXn.out.block j hl) (fun j hj _ => hj.1), own_base (Lay.own_mono HOn.out fun j hj _ => by omega) hww, HX.out.trans (HXr.out.trans HXn.out)⟩
        have hI2 : (i : Int) < (n' : Int) := by omega
        obtain ⟨p, hp⟩ : ∃ p, t.notes[i]? = some p := ⟨_, List.getElem?_eq_getElem (by have := HE2.out; omega)⟩
        obtain ⟨b0, off, cs, rfl, hb0, _, hrep, hcell⟩ := Lay.row_at HR2.out hp
        obtain ⟨Ap, cp, rfl, hcp, hrp⟩ := kWs_rep.1 hrep
        have hce0 := hcell 0 _ rfl
        rw [kWs_sz, Nat.mul_one, Nat.add_zero] at hce0
        have HEL := Lib.hid (fun X (hX : Ext w X) => (show X.cell? ⟨b0, off + i, none⟩ = some (.slice Ap p.length cp) from (hX.cells.1 b0 _ (World.block_lt_of_cell? _ _ hce0)).trans hce0))
        have hce := HEL.out _ (HX.out.trans (HXr.out.trans HXn.out))
        have hpv := HV.out p (List.mem_append_right _ (List.mem_of_getElem? hp))
        have hF5 : F ≤ 50000 := by
          have h9 := sumL_le t.paras fun q hq => (HV.out q (List.mem_append_left _ hq)).2
          rw [← HF.out] at h9
          omega
        have hF6 : F' ≤ 100000 := by
          have h9 := sumL_le (t.notes.take i) fun q hq => (HV.out q (List.mem_append_right _ (List.mem_of_mem_take hq))).2
          have := HF'.out
          rw [List.length_take] at h9
          omega
        rename World => wr2
        have HSET := Lib.hid (rlines1_any P wr2 Ap p.length cp p (F' : Int) m (Lay.row_ext hrp (HX.out.trans (HXr.out.trans HXn.out))) hpv.1 hpv.2 (by omega) (by omega) hm0 hm)
        have hpl := hpv.2
        have HP := Lib.hid hp
        clear hrep hrp hcell hpv hp hce0
        go_wp2_with fail
        refine HSET.out.mono ?_
        rintro e w2 ⟨As, cz, rfl, hos, hx2⟩
        have hlto := Lay.own_lt HOn.out
        obtain ⟨Ax, cx, e9, hcz, hrow⟩ := own_rowN (Q := fun j => wr2.heap.size ≤ j) hos (fun j hj _ => hj) (fun j hj _ => hj)
        have e9a : As = Ax := by injection e9
        have e9c : cz = cx := by injection e9
        rw [← e9a] at hrow
        rw [← e9c] at hcz
        clear e9 e9a e9c
        have hll : (setsP m (t.notes.take i) F).length ≤ 100 := by rw [setsP_len, List.length_take]; omega
        obtain ⟨A9, c9, w9, hrun, ho9, hb9, hk9, hs9, hn9⟩ := own_app1 (k := kLs) (Pr := Tryz.prog) (t := 162) Tryz.underlying162 info82 rfl (by decide) (by omega) (Lay.own_ext HOn.out hx2) (Nat.le_trans HXn.out.lt hx2.lt) (cs := #[.slice As (setP p (F' : Int) m).length cz]) (T := 82) (x := setP p (F' : Int) m) ⟨As, _, cz, rfl, hcz, Lay.row_mono hrow fun j hj _ => ⟨Nat.le_trans HXn.out.lt hj, fun e => by have := (hlto j e).2; omega⟩⟩ 1 (by omega)
        have HRUN := Lib.hid hrun
        have hx9 : Ext wb w9 := Below.trans (HXn.out.trans hx2) (hb9 _ (Nat.le_refl _))
        have HREL := Lib.hid (fun (z : Int) (hz : z = (F' : Int) + p.length) => show LiN wb m t.notes F (.slice A9 ((setsP m (t.notes.take i) F).length + 1) c9) (.int .i64 z) (.int .i64 ((i : Int) + 1)) w9 from ⟨i + 1, F' + p.length, by have := HE2.out; omega, by simp, by rw [hz]; simp, by rw [sumL_take _ HP.out, HF'.out]; omega, hx9, by
          rw [setsP_take m t.notes F i p HP.out, ← Int.natCast_add, ← HF'.out]
          exact ho9⟩)
        obtain ⟨d0, d1⟩ := HCA.out _ (HX1.out.trans (HXr.out.trans (HXn.out.trans hx2)))
        obtain ⟨g0, g1⟩ := HCA.out _ (HX1.out.trans (HXr.out.trans hx9))
        have hce2 := HEL.out _ (HX.out.trans (HXr.out.trans hx9))
        clear hrun ho9 hb9 hk9 hs9 hn9 hrow hos hlto hll hx9 hx2
        go_wp2_with (first | (at_builtin; refine wpList_append_run (s := .tmp 56) (x := .tmp 65) HRUN.out rfl rfl rfl rfl rfl ?_))
        go_roundw
        case rel => exact HREL.out _ rfl
        case measure => simp only [toM]; omega
    have hI : (i : Int) < (n : Int) := by omega
    obtain ⟨p, hp⟩ : ∃ p, t.paras[i]? = some p := ⟨_, List.getElem?_eq_getElem (by have := HE1.out; omega)⟩
    obtain ⟨b0, off, cs, rfl, hb0, _, hrep, hcell⟩ := Lay.row_at HR1.out hp
    obtain ⟨Ap, cp, rfl, hcp, hrp⟩ := kWs_rep.1 hrep
    have hce0 := hcell 0 _ rfl
    rw [kWs_sz, Nat.mul_one, Nat.add_zero] at hce0
    have HEL := Lib.hid (fun X (hX : Ext w X) => (show X.cell? ⟨b0, off + i, none⟩ = some (.slice Ap p.length cp) from (hX.cells.1 b0 _ (World.block_lt_of_cell? _ _ hce0)).trans hce0))
    have hce := HEL.out _ (HX.out.trans HXr.out)
    have hpv := HV.out p (List.mem_append_left _ (List.mem_of_getElem? hp))
    have hF5 : F ≤ 50000 := by
      have h9 := sumL_le (t.paras.take i) fun q hq => (HV.out q (List.mem_append_left _ (List.mem_of_mem_take hq))).2
      rw [← HF.out, List.length_take] at h9
      omega
    have HSET := Lib.hid (rlines1_any P wr Ap p.length cp p (F : Int) m (Lay.row_ext hrp (HX.out.trans HXr.out)) hpv.1 hpv.2 (by omega) (by omega) hm0 hm)
    have hpl := hpv.2
    have hpv1 := hpv.1
    have HP := Lib.hid hp
    clear hrep hrp hcell hpv hp hce0
    go_wp2_with fail
    refine HSET.out.mono ?_
    rintro e w2 ⟨As, cz, rfl, hos, hx2⟩
    have hlto := Lay.own_lt HO.out
    obtain ⟨Ax, cx, e9, _, hrow⟩ := own_rowN (Q := fun j => w1.heap.size ≤ j ∧ u8.ownBlock ≠ some j) hos (fun j hj _ => ⟨Nat.le_trans HXr.out.lt hj, fun e => by have := (hlto j e).2; omega⟩) (fun j hj _ => ⟨Nat.le_trans HXr.out.lt hj, fun e => by have := (hlto j e).2; omega⟩)
    have e9a : As = Ax := by injection e9
    rw [← e9a] at hrow
    clear e9 e9a
    have hll := setP_le p (F : Int) m hm0 hpv1
    have hfl := setsP_flat_le m hm0 (t.paras.take i) 0 fun q hq => (HV.out q (List.mem_append_left _ (List.mem_of_mem_take hq))).1
    rw [← HF.out] at hfl
    obtain ⟨A9, c9, w9, hrun, ho9, hb9, hk9, hs9, hn9⟩ := own_appR (k := kLn) (Pr := Tryz.prog) (t := 82) Tryz.underlying82 info86 rfl (by decide) (by omega) (Lay.own_ext HO.out hx2) hrow cz (by omega) (Nat.le_trans HXr.out.lt hx2.lt)
    have HRUN := Lib.hid hrun
    have hx9 : Ext w1 w9 := Below.trans (HXr.out.trans hx2) (hb9 _ (Nat.le_refl _))
    have HREL := Lib.hid (show LiB w1 m t.paras (.slice A9 ((setsP m (t.paras.take i) 0).flatten.length + (setP p (F : Int) m).length) c9) (.int .i64 ((F : Int) + p.length)) (.int .i64 ((i : Int) + 1)) w9 from ⟨i + 1, F + p.length, by have := HE1.out; omega, by simp, by simp, by rw [sumL_take _ HP.out, ← HF.out], hx9, by
      rw [setsP_take m t.paras 0 i p HP.out, List.flatten_append, ← HF.out, Int.zero_add]
      simpa using ho9⟩)
    obtain ⟨g0, g1⟩ := HCA.out _ (HX1.out.trans hx9)
    have hce2 := HEL.out _ (HX.out.trans hx9)
    clear hrun ho9 hb9 hk9 hs9 hn9 hrow hos hx2 hlto hll hfl hpv1 hx9
    go_wp2_with (first | (at_builtin; refine wpList_append_run (s := .tmp 31) (x := .tmp 39) HRUN.out rfl rfl rfl rfl rfl ?_))
    go_roundw
    case rel =>
      have h9 := HREL.out
      rwa [List.length_flatten] at h9
    case measure => simp only [toM]; omega
end Go.Proofs.YtdbnddmncbjobaaGreatDoor

/- The reference's Copy, Used, Fits: walked. -/
namespace Go.Proofs.YtdbnddmncbjobaaGreatDoor
open Go Go.RowKit

/-- A line in the value. -/
def LnV (W : World) (P : Nat → Prop) (x : Ln) (v : Value) : Prop := ∃ A1 n1 c1 A2 n2 c2, v = .agg #[.int .i64 x.fr, .int .i64 x.un, .slice A1 n1 c1, .slice A2 n2 c2] ∧ n1 ≤ c1 ∧ n2 ≤ c2 ∧ kInt.row W P A1 n1 x.gaps ∧ kInt.row W P A2 n2 x.nts
set_option maxHeartbeats 4000000 in
set_option maxRecDepth 100000 in
theorem rcopy_any (P : Nat → Prop) (w : World) (x : Ln) (A A' : Option Addr) (n n' c c' : Nat) (h1 : kInt.row w P A n x.gaps) (h2 : kInt.row w P A' n' x.nts) (hc : n ≤ c) (hc' : n' ≤ c') (hn : n ≤ 1000000) (hn' : n' ≤ 1000000) :
    Calls Tryz.prog 181 #[.agg #[.int .i64 x.fr, .int .i64 x.un, .slice A n c, .slice A' n' c']] w (fun e w' => ∃ v, e = .returned v ∧ LnV w' (fun j => w.heap.size ≤ j) x v ∧ Ext w w') := by
  obtain ⟨b1, hb1⟩ : ∃ b1, w.heap.size = b1 := ⟨_, rfl⟩
  have HP1 := Lib.hid (fun X (hX : Ext w X) => rints_any P X A n c x.gaps (Lay.row_ext h1 hX) hc hn)
  have HP2 := Lib.hid (fun X (hX : Ext w X) => rints_any P X A' n' c' x.nts (Lay.row_ext h2 hX) hc' hn')
  clear h1 h2 hc hc'
  go_enter Tryz.func181, Tryz.ntmps181
  go_upto_region 1 with (fail)
  obtain ⟨W1, hW1⟩ : ∃ W1, (w.alloc (.cells #[.int .i64 x.fr, .int .i64 x.un, .slice A n c, .slice A' n' c'] 86)).alloc (.cells #[.int .i64 0, .int .i64 0, .slice none 0 0, .slice none 0 0] 86) = W1 := ⟨_, rfl⟩
  rw [hW1]
  have hX0 : Ext w W1 := by rw [← hW1]; exact ((Ext.refl w).alloc _).alloc _
  have hB1 : W1.heap[b1]? = some (.cells #[.int .i64 x.fr, .int .i64 x.un, .slice A n c, .slice A' n' c'] 86 (0, 0)) := by
    rw [← hW1, ← hb1, heap_alloc_old _ _ _ (by simp)]
    exact heap_alloc_at _ _ _ _ rfl
  have hB2 : W1.heap[b1 + 1]? = some (.cells #[.int .i64 0, .int .i64 0, .slice none 0 0, .slice none 0 0] 86 (0, 0)) := by
    rw [← hW1, ← hb1]
    exact heap_alloc_at _ _ _ _ (by simp)
  have HX0 := Lib.hid hX0
  have HB2 := Lib.hid hB2
  have HBE := Lib.hid hb1
  have l1 := lt_of_block hB1
  have l2 := lt_of_block hB2
  have HQ := Lib.hid (fun X (hX : Ext W1 X) => (show X.cell? ⟨b1, 0, none⟩ = some (.int .i64 x.fr) ∧ X.cell? ⟨b1, 1, none⟩ = some (.int .i64 x.un) ∧ X.cell? ⟨b1, 2, none⟩ = some (.slice A n c) ∧ X.cell? ⟨b1, 3, none⟩ = some (.slice A' n' c') from
    have h9 := (hX.block _ l1).trans hB1
    ⟨cell_of h9 (i := 0) rfl, cell_of h9 (i := 1) rfl, cell_of h9 (i := 2) rfl, cell_of h9 (i := 3) rfl⟩))
  have HQ2 := Lib.hid (fun X (hX : Ext W1 X) u u1 u2 u3 => (show ((((X.setCell ⟨b1 + 1, 0, none⟩ u).setCell ⟨b1 + 1, 1, none⟩ u1).setCell ⟨b1 + 1, 2, none⟩ u2).setCell ⟨b1 + 1, 3, none⟩ u3).cell? ⟨b1, 0, none⟩ = some (.int .i64 x.fr) ∧ ((((X.setCell ⟨b1 + 1, 0, none⟩ u).setCell ⟨b1 + 1, 1, none⟩ u1).setCell ⟨b1 + 1, 2, none⟩ u2).setCell ⟨b1 + 1, 3, none⟩ u3).cell? ⟨b1, 1, none⟩ = some (.int .i64 x.un) ∧
      ((((X.setCell ⟨b1 + 1, 0, none⟩ u).setCell ⟨b1 + 1, 1, none⟩ u1).setCell ⟨b1 + 1, 2, none⟩ u2).setCell ⟨b1 + 1, 3, none⟩ u3).cell? ⟨b1, 2, none⟩ = some (.slice A n c) ∧ ((((X.setCell ⟨b1 + 1, 0, none⟩ u).setCell ⟨b1 + 1, 1, none⟩ u1).setCell ⟨b1 + 1, 2, none⟩ u2).setCell ⟨b1 + 1, 3, none⟩ u3).cell? ⟨b1, 3, none⟩ = some (.slice A' n' c') from by
    have h9 := (hX.block _ l1).trans hB1
    have e9 : ((((X.setCell ⟨b1 + 1, 0, none⟩ u).setCell ⟨b1 + 1, 1, none⟩ u1).setCell ⟨b1 + 1, 2, none⟩ u2).setCell ⟨b1 + 1, 3, none⟩ u3).heap[b1]? = some (.cells #[.int .i64 x.fr, .int .i64 x.un, .slice A n c, .slice A' n' c'] 86 (0, 0)) := by
      rw [heap_setCell_other _ ⟨b1 + 1, 3, none⟩ b1 _ (by show b1 ≠ b1 + 1; omega), heap_setCell_other _ ⟨b1 + 1, 2, none⟩ b1 _ (by show b1 ≠ b1 + 1; omega), heap_setCell_other _ ⟨b1 + 1, 1, none⟩ b1 _ (by show b1 ≠ b1 + 1; omega), heap_setCell_other _ ⟨b1 + 1, 0, none⟩ b1 _ (by show b1 ≠ b1 + 1; omega)]
      exact h9
    exact ⟨cell_of e9 (i := 0) rfl, cell_of e9 (i := 1) rfl, cell_of e9 (i := 2) rfl, cell_of e9 (i := 3) rfl⟩))
  have HFZ := Lib.hid (fun X (hX : Ext W1 X) => (show X.cell? ⟨b1 + 1, 0, none⟩ = some (.int .i64 0) ∧ X.cell? ⟨b1 + 1, 1, none⟩ = some (.int .i64 0) ∧ X.cell? ⟨b1 + 1, 2, none⟩ = some (.slice none 0 0) ∧ X.cell? ⟨b1 + 1, 3, none⟩ = some (.slice none 0 0) ∧ X.frozen? ⟨b1 + 1, 0, none⟩ = false ∧ X.frozen? ⟨b1 + 1, 1, none⟩ = false ∧ X.frozen? ⟨b1 + 1, 2, none⟩ = false ∧ X.frozen? ⟨b1 + 1, 3, none⟩ = false from
    have h9 := (hX.block _ l2).trans hB2
    ⟨cell_of h9 (i := 0) rfl, cell_of h9 (i := 1) rfl, cell_of h9 (i := 2) rfl, cell_of h9 (i := 3) rfl, frozen_of h9 0, frozen_of h9 1, frozen_of h9 2, frozen_of h9 3⟩))
  have hcur : Ext W1 W1.drew := (Ext.refl _).drew
  clear hX0 hB1 hB2 hb1 hW1
  go_region_held3 (fun W => W.cell? ⟨b1, 0, none⟩ = some (.int .i64 x.fr) ∧ W.cell? ⟨b1, 1, none⟩ = some (.int .i64 x.un) ∧ W.cell? ⟨b1, 2, none⟩ = some (.slice A n c) ∧ W.cell? ⟨b1, 3, none⟩ = some (.slice A' n' c')) (first | exact HQ.out _ hcur | exact HQ2.out _ hcur _ _ _ _) (first
    | (go_at_call_of 214 (Value.slice A n c); refine (HP1.out _ (HX0.out.trans hcur)).mono ?_; rintro e wG ⟨AG, cG, rfl, hG, hoG, hxG⟩; have HWG := Lib.hid hcur.lt; have hcur := hcur.trans hxG; obtain ⟨g0, g1, g2, g3, f0, f1, f2, f3⟩ := HFZ.out _ hcur; have HOG := Lib.hid hoG; have HXG := Lib.hid hxG; clear hoG hxG)
    | (go_at_call_of 214 (Value.slice A' n' c'); refine (HP2.out _ (HX0.out.trans hcur)).mono ?_; rintro e wN ⟨AN, cN, rfl, hN, hoN, hxN⟩; have HWN := Lib.hid hcur.lt; have hcur := hcur.trans hxN; obtain ⟨g0, g1, g2, g3, f0, f1, f2, f3⟩ := HFZ.out _ hcur; have HON := Lib.hid hoN; have HXN := Lib.hid hxN; clear hoN hxN))
  have HEND := Lib.hid (fun X (hX : Ext W1 X) (AG AN : Option Addr) (cG cN : Nat) (hG : n ≤ cG) (hN : n' ≤ cN) (r1 : kInt.row X (fun j => W1.heap.size ≤ j) AG n x.gaps) (r2 : kInt.row X (fun j => W1.heap.size ≤ j) AN n' x.nts) =>
    (show ((((X.setCell ⟨b1 + 1, 0, none⟩ (.int .i64 x.fr)).setCell ⟨b1 + 1, 1, none⟩ (.int .i64 x.un)).setCell ⟨b1 + 1, 2, none⟩ (.slice AG n cG)).setCell ⟨b1 + 1, 3, none⟩ (.slice AN n' cN)).heap[b1 + 1]? = some (.cells #[.int .i64 x.fr, .int .i64 x.un, .slice AG n cG, .slice AN n' cN] 86 (0, 0)) ∧
      LnV ((((X.setCell ⟨b1 + 1, 0, none⟩ (.int .i64 x.fr)).setCell ⟨b1 + 1, 1, none⟩ (.int .i64 x.un)).setCell ⟨b1 + 1, 2, none⟩ (.slice AG n cG)).setCell ⟨b1 + 1, 3, none⟩ (.slice AN n' cN)) (fun j => w.heap.size ≤ j) x (.agg #[.int .i64 x.fr, .int .i64 x.un, .slice AG n cG, .slice AN n' cN]) ∧
      Ext w ((((X.setCell ⟨b1 + 1, 0, none⟩ (.int .i64 x.fr)).setCell ⟨b1 + 1, 1, none⟩ (.int .i64 x.un)).setCell ⟨b1 + 1, 2, none⟩ (.slice AG n cG)).setCell ⟨b1 + 1, 3, none⟩ (.slice AN n' cN)) by
      have hb : w.heap.size = b1 := HBE.out
      have hk : ∀ j, j ≠ b1 + 1 → ((((X.setCell ⟨b1 + 1, 0, none⟩ (.int .i64 x.fr)).setCell ⟨b1 + 1, 1, none⟩ (.int .i64 x.un)).setCell ⟨b1 + 1, 2, none⟩ (.slice AG n cG)).setCell ⟨b1 + 1, 3, none⟩ (.slice AN n' cN)).heap[j]? = X.heap[j]? := fun j hj => by
        rw [heap_setCell_other _ ⟨b1 + 1, 3, none⟩ j _ hj, heap_setCell_other _ ⟨b1 + 1, 2, none⟩ j _ hj, heap_setCell_other _ ⟨b1 + 1, 1, none⟩ j _ hj, heap_setCell_other _ ⟨b1 + 1, 0, none⟩ j _ hj]
      refine ⟨heap_setCell_same _ (b1 + 1) 3 _ 86 _ (heap_setCell_same _ (b1 + 1) 2 _ 86 _ (heap_setCell_same _ (b1 + 1) 1 _ 86 _ (heap_setCell_same _ (b1 + 1) 0 _ 86 _ ((hX.block _ l2).trans HB2.out)))), ⟨AG, n, cG, AN, n', cN, rfl, hG, hN, Lay.row_mono (Lay.row_keep r1 (by simp) fun j hj _ => hk j (by omega)) fun j hj _ => by omega, Lay.row_mono (Lay.row_keep r2 (by simp) fun j hj _ => hk j (by omega)) fun j hj _ => by omega⟩, ?_⟩
      exact ((((HX0.out.trans hX).setCell (p := ⟨b1 + 1, 0, none⟩) (by show w.heap.size ≤ b1 + 1; omega) _).setCell (p := ⟨b1 + 1, 1, none⟩) (by show w.heap.size ≤ b1 + 1; omega) _).setCell (p := ⟨b1 + 1, 2, none⟩) (by show w.heap.size ≤ b1 + 1; omega) _).setCell (p := ⟨b1 + 1, 3, none⟩) (by show w.heap.size ≤ b1 + 1; omega) _))
  all_goals
    go_wp2_with fail
    obtain ⟨z, hT, hE⟩ := HEND.out _ hcur AG AN cG cN hG hN (by first | exact Lay.row_mono (Lay.row_ext HOG.out HXN.out) fun j hj _ => Nat.le_trans HWG.out hj | exact Lay.row_mono HOG.out fun j hj _ => Nat.le_trans HWG.out hj) (by first | exact Lay.row_mono (Lay.row_ext HON.out HXG.out) fun j hj _ => Nat.le_trans HWN.out hj | exact Lay.row_mono HON.out fun j hj _ => Nat.le_trans HWN.out hj)
    have q0 := cell_of z (i := 0) rfl
    have q1 := cell_of z (i := 1) rfl
    have q2 := cell_of z (i := 2) rfl
    have q3 := cell_of z (i := 3) rfl
    refine bodyPost_ret (v := .agg #[.int .i64 x.fr, .int .i64 x.un, .slice AG n cG, .slice AN n' cN]) (by simp [results, Tryz.results181, go_sem, q0, q1, q2, q3]) rfl ?_
    exact ⟨_, rfl, hT, hE⟩
/-- How many lines of a page are used. -/
def usedN (n7 n8 : Nat) : Int := (n7 : Int) + (n8 : Int) + min (n8 : Int) 1
set_option maxHeartbeats 4000000 in
set_option maxRecDepth 100000 in
theorem rused_any (w : World) (a0 a1 a2 a3 : Int) (A7 A8 : Option Addr) (n7 c7 n8 c8 : Nat) (h7 : n7 ≤ 1000000) (h8 : n8 ≤ 1000000) :
    Calls Tryz.prog 183 #[.agg #[.int .i64 a0, .int .i64 a1, .int .i64 a2, .int .i64 a3, .slice A7 n7 c7, .slice A8 n8 c8]] w (fun e w' => e = .returned (.int .i64 (usedN n7 n8)) ∧ Ext w w') := by
  obtain ⟨mn, hmn⟩ : ∃ mn, min (n8 : Int) 1 = mn := ⟨_, rfl⟩
  have hmb : 0 ≤ mn ∧ mn ≤ 1 := by omega
  obtain ⟨hm1, hm2⟩ := hmb
  have HU := Lib.hid (show usedN n7 n8 = (n7 : Int) + (n8 : Int) + mn by unfold usedN; rw [hmn])
  go_enter Tryz.func183, Tryz.ntmps183
  go_wp2_with fail
  go_ret
  exact ⟨by rw [HU.out]; rfl, (Ext.refl _).alloc _⟩
/-- Whether a line fits on a page. -/
def fitsR (n7 n8 n2 : Nat) (q h : Int) : Bool := if n2 = 0 then decide (usedN n7 n8 ≤ h - 1) else decide (q = 0 ∧ usedN n7 n8 + 1 + (1 - min (n8 : Int) 1) + 1 ≤ h)
set_option maxHeartbeats 4000000 in
set_option maxRecDepth 100000 in
theorem rfits_any (w : World) (a0 a1 a2 a3 b0 b1 q h : Int) (A7 A8 B1 B2 : Option Addr) (n7 c7 n8 c8 m1 d1 m2 d2 : Nat) (h7 : n7 ≤ 1000000) (h8 : n8 ≤ 1000000) (hh : 0 ≤ h) (hh2 : h ≤ 1000) :
    Calls Tryz.prog 182 #[.agg #[.int .i64 a0, .int .i64 a1, .int .i64 a2, .int .i64 a3, .slice A7 n7 c7, .slice A8 n8 c8], .agg #[.int .i64 b0, .int .i64 b1, .slice B1 m1 d1, .slice B2 m2 d2], .int .i64 q, .int .i64 h] w (fun e w' => e = .returned (.bool (fitsR n7 n8 m2 q h)) ∧ Ext w w') := by
  obtain ⟨u, hu⟩ : ∃ u, usedN n7 n8 = u := ⟨_, rfl⟩
  obtain ⟨mn, hmn⟩ : ∃ mn, min (n8 : Int) 1 = mn := ⟨_, rfl⟩
  have hmb : 0 ≤ mn ∧ mn ≤ 1 := by omega
  have hub : 0 ≤ u ∧ u ≤ 3000000 := by rw [← hu]; unfold usedN; omega
  obtain ⟨hm1, hm2⟩ := hmb
  obtain ⟨hu1, hu2⟩ := hub
  have HUS := Lib.hid (fun X => (show Calls Tryz.prog 183 #[.agg #[.int .i64 a0, .int .i64 a1, .int .i64 a2, .int .i64 a3, .slice A7 n7 c7, .slice A8 n8 c8]] X (fun e w' => e = .returned (.int .i64 u) ∧ Ext X w') from by rw [← hu]; exact rused_any X a0 a1 a2 a3 A7 A8 n7 c7 n8 c8 h7 h8))
  obtain ⟨rs, hrs⟩ : ∃ rs, fitsR n7 n8 m2 q h = rs := ⟨_, rfl⟩
  have HR := Lib.hid (show (m2 = 0 → rs = decide (u ≤ h - 1)) ∧ (m2 ≠ 0 → rs = decide (q = 0 ∧ u + 1 + (1 - mn) + 1 ≤ h)) from ⟨fun h0 => by rw [← hrs]; unfold fitsR; rw [if_pos h0, hu], fun h0 => by rw [← hrs]; unfold fitsR; rw [if_neg h0, hu, hmn]⟩)
  rw [hrs]
  clear hu hrs h7
  go_enter Tryz.func182, Tryz.ntmps182
  go_upto_region 1 with (fail)
  obtain ⟨W0, hW0⟩ : ∃ W0, (w.alloc (.cells #[.int .i64 a0, .int .i64 a1, .int .i64 a2, .int .i64 a3, .slice A7 n7 c7, .slice A8 n8 c8] 84)).alloc (.cells #[.int .i64 b0, .int .i64 b1, .slice B1 m1 d1, .slice B2 m2 d2] 86) = W0 := ⟨_, rfl⟩
  obtain ⟨z, hz⟩ : ∃ z, w.heap.size = z := ⟨_, rfl⟩
  have hx0 : Ext w W0 := by rw [← hW0]; exact ((Ext.refl w).alloc _).alloc _
  have hB0 : W0.heap[z]? = some (.cells #[.int .i64 a0, .int .i64 a1, .int .i64 a2, .int .i64 a3, .slice A7 n7 c7, .slice A8 n8 c8] 84 (0, 0)) := by rw [← hW0, ← hz, heap_alloc_old _ _ _ (by simp)]; exact heap_alloc_at _ _ _ _ rfl
  have hB1 : W0.heap[z + 1]? = some (.cells #[.int .i64 b0, .int .i64 b1, .slice B1 m1 d1, .slice B2 m2 d2] 86 (0, 0)) := by rw [← hW0, ← hz]; exact heap_alloc_at _ _ _ _ (by simp)
  rw [hW0, hz]
  have p0 := cell_of hB0 (i := 0) (u := .int .i64 a0) rfl
  have p1 := cell_of hB0 (i := 1) (u := .int .i64 a1) rfl
  have p2 := cell_of hB0 (i := 2) (u := .int .i64 a2) rfl
  have p3 := cell_of hB0 (i := 3) (u := .int .i64 a3) rfl
  have p4 := cell_of hB0 (i := 4) (u := .slice A7 n7 c7) rfl
  have p5 := cell_of hB0 (i := 5) (u := .slice A8 n8 c8) rfl
  have l3 := cell_of hB1 (i := 3) (u := .slice B2 m2 d2) rfl
  have HX0 := Lib.hid hx0
  clear hW0 hz hx0 hB0 hB1
  by_cases h0 : m2 = 0
  · have hR := HR.out.1 h0
    subst hR
    subst h0
    clear HR
    go_wp2_with (first | (go_at_call 183; refine (HUS.out _).mono ?_; rintro e w2 ⟨rfl, hx2⟩))
    go_ret
    exact ⟨rfl, HX0.out.trans hx2⟩
  · have hR := HR.out.2 h0
    have h0i : ((m2 : Int) == 0) = false := by rw [beq_eq_false_iff_ne]; omega
    have h0j : ¬ (m2 : Int) = 0 := by omega
    clear HR
    by_cases hq : q = 0
    · subst hq
      have HRR := Lib.hid (show rs = decide (u + 1 + (1 - mn) + 1 ≤ h) by rw [hR]; simp)
      clear hR
      go_wp2_with (first | (go_at_call 183; refine (HUS.out _).mono ?_; rintro e w2 ⟨rfl, hx2⟩))
      go_ret
      exact ⟨by rw [HRR.out]; rfl, HX0.out.trans hx2⟩
    · have hqb : (q == 0) = false := by simpa using hq
      have HRR := Lib.hid (show rs = false by rw [hR]; simp [hq])
      clear hR
      go_wp2_with (first | (go_at_call 183; refine (HUS.out _).mono ?_; rintro e w2 ⟨rfl, hx2⟩))
      go_ret
      exact ⟨by rw [HRR.out]; rfl, HX0.out⟩
end Go.Proofs.YtdbnddmncbjobaaGreatDoor

/- The reference's page check at lines that are right: walked. -/
namespace Go.Proofs.YtdbnddmncbjobaaGreatDoor
open Go Go.RowKit

def RwN (k : Nat) (s7 : Value) (w w' : World) : Prop := ∃ i : Nat, i ≤ k ∧ s7 = .int .i64 i ∧ w = w'
def RwO (w : World) (nn : Nat) (body : List Ln) (K : Int) (s8 s9 : Value) (w' : World) : Prop := ∃ i k : Nat, i ≤ body.length ∧ k ≤ nn ∧ s9 = .int .i64 i ∧ s8 = .int .i64 k ∧ w = w' ∧ ordL nn (body.drop i) k = some K
def RwI (w : World) (nn k0 : Nat) (l : List Int) (k1 : Int) (s8 s10 : Value) (w' : World) : Prop := ∃ j k : Nat, j ≤ l.length ∧ k = k0 + j ∧ k ≤ nn ∧ s10 = .int .i64 j ∧ s8 = .int .i64 k ∧ w = w' ∧ ordN nn (l.drop j) k = some k1
set_option maxHeartbeats 8000000 in
set_option maxRecDepth 100000 in
theorem rwrong_any (P : Nat → Prop) (w : World) (A A' : Option Addr) (n n' c c' : Nat) (body : List Ln) (notes : List (List Ln)) (h : Int) (h1 : kLn.row w P A n body) (h2 : kLs.row w P A' n' notes) (hc : chkPg body notes h = 0) (hn : n ≤ 100000) (hn' : n' ≤ 100000) :
    Calls Tryz.prog 180 #[.slice A n c, .slice A' n' c', .int .i64 h] w (fun e w' => e = .returned (.int .i64 0) ∧ w = w') := by
  obtain ⟨k1, k2, k3, K, k4, k5⟩ := chkPg_inv hc
  have HE1 := Lib.hid (Lay.row_len h1)
  have HE2 := Lib.hid (Lay.row_len h2)
  have HR1 := Lib.hid h1
  have HRN := Lib.hid h2
  have HNN := Lib.hid (fun (i : Nat) (l : List Ln) (hl : notes[i]? = some l) => (show l.length ≠ 0 from fun e => by
    have := List.any_eq_false.1 k3 l (List.mem_of_getElem? hl)
    simp [e] at this))
  have HK4 := Lib.hid k4
  rw [← HE2.out] at HK4
  rw [← HE2.out] at k5
  have m1 : ¬ h < 4 := by omega
  have m2 : ¬ (100 : Int) < h := by omega
  clear h1 h2 hc k3 k4
  go_enter Tryz.func180, Tryz.ntmps180
  go_upto_region 4 with (fail)
  go_loopw [7] (fun s7 w' => RwN n' s7 w w') (fun s7 _ => toM n' s7)
  case atStart => exact ⟨0, by omega, rfl, rfl⟩
  case round =>
    obtain ⟨i, hi, rfl, rfl⟩ := hrel
    by_cases hlt : i < n'
    case pos =>
      have hI : (i : Int) < (n' : Int) := by omega
      obtain ⟨l, hl⟩ : ∃ l, notes[i]? = some l := ⟨_, List.getElem?_eq_getElem (by have := HE2.out; omega)⟩
      obtain ⟨b0, off, cs, rfl, hb0, _, hrep, hcell⟩ := Lay.row_at HRN.out hl
      obtain ⟨A1, n1, c1, rfl, _, hr1⟩ := hrep
      have hl0 := HNN.out i l hl
      have y0 := hcell 0 _ rfl
      rw [show kLs.sz = 1 from rfl, Nat.mul_one, Nat.add_zero] at y0
      have hn1 := Lay.row_len hr1
      have y1 : ((n1 : Int) == 0) = false := by rw [beq_eq_false_iff_ne]; omega
      have y2 : ¬ (n1 : Int) = 0 := by omega
      clear hl hcell hr1 hl0 hn1
      go_wp2_with fail
      go_roundw
      case rel => exact ⟨i + 1, by omega, by simp, rfl⟩
      case measure => simp only [toM]; omega
    obtain rfl : i = n' := by omega
    have hni : ¬ ((i : Int) < (i : Int)) := by omega
    rename World => wr
    go_upto_region 10 with (fail)
    go_loopw [8, 9, 10] (fun s8 s9 _ w' => RwO wr i body K s8 s9 w') (fun _ s9 _ _ => toM n s9)
    case atStart => exact ⟨0, 0, by omega, by omega, rfl, rfl, rfl, HK4.out⟩
    case round =>
      rename World => wq
      obtain ⟨q, k, hi, hk, rfl, rfl, rfl, heq⟩ := hrel
      have HEQ := Lib.hid heq
      clear heq
      by_cases hlt : q < n
      case neg =>
        obtain rfl : n = q := by have := HE1.out; omega
        have hnn : ¬ ((n : Int) < (n : Int)) := by omega
        have hKk : K = k := by
          have h9 := HEQ.out
          rw [List.drop_of_length_le (by have := HE1.out; omega)] at h9
          injection h9 with h9
          exact h9.symm
        have hkn : ¬ ((k : Int) < (i : Int)) := by omega
        go_wp2_with fail
        go_ret
        exact ⟨rfl, rfl⟩
      have hI : (q : Int) < (n : Int) := by omega
      obtain ⟨x, hx⟩ : ∃ x, body[q]? = some x := ⟨_, List.getElem?_eq_getElem (by have := HE1.out; omega)⟩
      obtain ⟨k1, hk1, hk2⟩ := ordL_inv (by have h9 := HEQ.out; rw [dwl' _ hx] at h9; exact h9)
      obtain ⟨b0, off, cs, rfl, hb0, _, hrep, hcell⟩ := Lay.row_at HR1.out hx
      obtain ⟨A1, n1, c1, A2, n2, c2, rfl, _, _, hr1, hr2⟩ := kLn_rep.1 hrep
      have c3' := hcell 3 _ rfl
      rw [kLn_sz] at c3'
      have HR2 := Lib.hid hr2
      have HE3 := Lib.hid (Lay.row_len hr2)
      have HK1 := Lib.hid hk1
      have HK2 := Lib.hid hk2
      obtain ⟨x1, x2, x3, x4⟩ := x
      simp only at HR2 HE3 HK1
      clear hrep hcell hr1 hr2 hk1 hk2 hx
      rename World => wv
      go_upto_region 13 with (fail)
      go_loopw [8, 10] (fun s8 s10 w' => RwI wv i k x4 k1 s8 s10 w') (fun _ s10 _ => toM n2 s10)
      case atStart => exact ⟨0, k, by omega, rfl, hk, rfl, rfl, rfl, HK1.out⟩
      case round =>
        rename World => wz
        obtain ⟨j, k', hj, hkj, hk', rfl, rfl, rfl, heqi⟩ := hrel
        have hjn : j ≤ i := by omega
        have HKJ := Lib.hid hkj
        clear hkj
        have HEQi := Lib.hid heqi
        clear heqi
        by_cases hjl : j < n2
        case neg =>
          obtain rfl : n2 = j := by have := HE3.out; omega
          have hnj : ¬ ((n2 : Int) < (n2 : Int)) := by omega
          have HK := Lib.hid (show k1 = (k' : Int) by
            have h9 := HEQi.out
            rw [List.drop_of_length_le (by have := HE3.out; omega)] at h9
            injection h9 with h9
            exact h9.symm)
          go_wp2_with fail
          go_roundw
          case rel => exact ⟨q + 1, k', by have := HE1.out; omega, hk', by simp, rfl, rfl, by have h9 := HK2.out; rwa [HK.out] at h9⟩
          case measure => simp only [toM]; omega
        have hJ : (j : Int) < (n2 : Int) := by omega
        obtain ⟨y, hy⟩ : ∃ y, x4[j]? = some y := ⟨_, List.getElem?_eq_getElem (by have := HE3.out; omega)⟩
        obtain ⟨e1, e2, e3⟩ := ordN_inv (by have h9 := HEQi.out; rw [dwl' _ hy] at h9; exact h9)
        subst e1
        obtain ⟨b2, o2, rfl, hb2, _, hcell⟩ := int_at HR2.out hy
        have HE := Lib.hid e3
        have e2' : ¬ ((i : Int) ≤ (k' : Int)) := by omega
        have e2'' : decide ((i : Int) ≤ (k' : Int)) = false := by simpa using e2'
        have e1' : ((k' : Int) != (k' : Int)) = false := by simp
        clear hy e3
        go_wp2_with fail
        go_roundw
        case rel => exact ⟨j + 1, k' + 1, by have := HE3.out; omega, by have := HKJ.out; omega, by omega, by simp, by simp, rfl, HE.out⟩
        case measure => simp only [toM]; omega
end Go.Proofs.YtdbnddmncbjobaaGreatDoor

/- The reference's Set: a page under way. -/
namespace Go.Proofs.YtdbnddmncbjobaaGreatDoor
open Go Go.RowKit

theorem own_move {β : Type} {k : Lay β} {e : TypeId} {W W' : World} {b : Nat} {P P' : Nat → Prop} {v : Value} {xs : List β} (h : k.own e W b P v xs) (hs : W.heap.size ≤ W'.heap.size) (hk : ∀ j, (P j ∨ v.ownBlock = some j) → j < W.heap.size → W'.heap[j]? = W.heap[j]?) (hp : ∀ j, P j → j < W.heap.size → P' j) : k.own e W' b P' v xs :=
  Lay.own_mono (Lay.own_keep (Lay.own_mono (P' := fun j => P j ∧ j < W.heap.size) h fun _ hj hl => ⟨hj, hl⟩) hs fun j hj hl => hk j (hj.imp (·.1) id) hl) fun j hj _ => hp j hj.1 hj.2
/-- A page under way in the box z: its lines B, its notes N, the queue Q. W0: the world before the page. -/
structure PgW (w W0 : World) (z : Nat) (qv0 : Value) (B N Q : List Ln) (qv Bv Nv : Value) (W : World) : Prop where
  box : W.heap[z]? = some (.cells #[.int .i64 0, .int .i64 0, .int .i64 0, .int .i64 0, Bv, Nv] 84 (0, 0))
  bo : kLn.own 86 W (z + 1) (fun j => z < j ∧ Nv.ownBlock ≠ some j ∧ qv.ownBlock ≠ some j) Bv B
  no : kLn.own 86 W (z + 1) (fun j => z < j ∧ Bv.ownBlock ≠ some j ∧ qv.ownBlock ≠ some j) Nv N
  qo : kLn.que 86 W w.heap.size (fun j => j < w.heap.size) qv Q
  dbn : ∀ j, Bv.ownBlock = some j → Nv.ownBlock ≠ some j
  dbq : ∀ j, Bv.ownBlock = some j → qv.ownBlock ≠ some j
  dnq : ∀ j, Nv.ownBlock = some j → qv.ownBlock ≠ some j
  ow : ∀ j, qv.ownBlock = some j → qv0.ownBlock = some j ∨ z < j
  q0 : ∀ j, qv0.ownBlock = some j → j < z
  keep : ∀ j, j < z → qv0.ownBlock ≠ some j → W.heap[j]? = W0.heap[j]?
  wz : w.heap.size ≤ z
  ext : Ext w W
variable {w W0 : World} {z : Nat} {qv0 : Value} {B N Q : List Ln} {qv Bv Nv : Value} {W : World}
theorem PgW.mv (h : PgW w W0 z qv0 B N Q qv Bv Nv W) {W' : World} (hx : Ext W W') : PgW w W0 z qv0 B N Q qv Bv Nv W' := by
  have hz := lt_of_block h.box
  exact ⟨(hx.block _ hz).trans h.box, Lay.own_ext h.bo hx, Lay.own_ext h.no hx, Lay.que_ext h.qo hx, h.dbn, h.dbq, h.dnq, h.ow, h.q0, fun j hj hq => (hx.block j (by omega)).trans (h.keep j hj hq), h.wz, h.ext.trans hx⟩
theorem PgW.qz (h : PgW w W0 z qv0 B N Q qv Bv Nv W) : ∀ j, qv.ownBlock = some j → j ≠ z := fun j hj => by
  rcases h.ow j hj with h1 | h1
  · have := h.q0 j h1; omega
  · omega
theorem PgW.noteV (h : PgW w W0 z qv0 B N Q qv Bv Nv W) {n : Nat} (hn : N.length = n) : ∃ A c, Nv = .slice A n c ∧ n ≤ c := by
  obtain ⟨A, c, e, hc, _⟩ := Lay.own_row h.no
  rw [hn] at e hc
  exact ⟨A, c, e, hc⟩
theorem PgW.bodyV (h : PgW w W0 z qv0 B N Q qv Bv Nv W) {n : Nat} (hn : B.length = n) : ∃ A c, Bv = .slice A n c ∧ n ≤ c := by
  obtain ⟨A, c, e, hc, _⟩ := Lay.own_row h.bo
  rw [hn] at e hc
  exact ⟨A, c, e, hc⟩
theorem PgW.queV (h : PgW w W0 z qv0 B N Q qv Bv Nv W) {n : Nat} (hn : Q.length = n) : ∃ A c, qv = .slice A n c ∧ n ≤ c := by
  obtain ⟨A, c, e, hc, _⟩ := Lay.que_len h.qo
  rw [hn] at e hc
  exact ⟨A, c, e, hc⟩
/-- A page is begun. -/
theorem PgW.start {w W0 : World} {Q : List Ln} {qv : Value} (hx : Ext w W0) (hq : kLn.que 86 W0 w.heap.size (fun j => j < w.heap.size) qv Q) : PgW w W0 W0.heap.size qv [] [] Q qv (.slice none 0 0) (.slice none 0 0) (W0.alloc (.cells #[.int .i64 0, .int .i64 0, .int .i64 0, .int .i64 0, .slice none 0 0, .slice none 0 0] 84)) :=
  have h1 : Ext W0 (W0.alloc (.cells #[.int .i64 0, .int .i64 0, .int .i64 0, .int .i64 0, .slice none 0 0, .slice none 0 0] 84)) := (Ext.refl _).alloc _
  ⟨heap_alloc_at _ _ _ _ rfl, Lay.own_nil _ _ _ _ _, Lay.own_nil _ _ _ _ _, Lay.que_ext hq h1, (fun _ h => nomatch h), (fun _ h => nomatch h), (fun _ h => nomatch h), fun _ hj => .inl hj, fun j hj => (Lay.que_lt hq j hj).2, fun j hj _ => h1.block j hj, hx.lt, hx.trans h1⟩
/-- A note is appended to the page, and taken off the queue. -/
theorem PgW.note (h : PgW w W0 z qv0 B N Q qv Bv Nv W) {X : World} (hx : Ext W X) {x : Ln} {cs : Array Value} (hr : kLn.rep X (fun j => W.heap.size ≤ j) x cs.toList) (hl : N.length < 1000000) {qv' : Value} {Q' : List Ln}
    (hq' : ∀ Y, kLn.que 86 Y w.heap.size (fun j => j < w.heap.size) qv Q → kLn.que 86 Y w.heap.size (fun j => j < w.heap.size) qv' Q') (ho' : ∀ j, qv'.ownBlock = some j → qv.ownBlock = some j) :
    ∃ A' c' w', (Builtin.append_ #[82, 82] 82 #[Nv, .slice (some ⟨X.heap.size, 0, none⟩) 1 1]).run Tryz.prog (X.alloc (.cells cs 86)) = .ok (.slice A' (N.length + 1) c') w' ∧
      w'.heap[z]? = some (.cells #[.int .i64 0, .int .i64 0, .int .i64 0, .int .i64 0, Bv, Nv] 84 (0, 0)) ∧ Ext w w' ∧ (∀ j, j < X.heap.size → Nv.ownBlock ≠ some j → w'.heap[j]? = X.heap[j]?) ∧
      PgW w W0 z qv0 B (N ++ [x]) Q' qv' Bv (.slice A' (N.length + 1) c') (w'.setCell ⟨z, 5, none⟩ (.slice A' (N.length + 1) c')) := by
  have hX := h.mv hx
  have hzX := lt_of_block hX.box
  have hzW := lt_of_block h.box
  have hN := Lay.own_lt hX.no
  have hNW := Lay.own_lt h.no
  have hB := Lay.own_lt hX.bo
  have hBW := Lay.own_lt h.bo
  have hQW := Lay.que_lt h.qo
  obtain ⟨A', c', w', r1, r2, r3, r4, r5, r6⟩ := own_app1 (k := kLn) (Pr := Tryz.prog) (t := 82) Tryz.underlying82 info86 rfl (by decide) (by omega) hX.no (by omega) (cs := cs) (T := 86) (x := x) (kLn.mono hr fun j hj hl => ⟨⟨by omega, fun e => by have := hBW j e; omega, fun e => by have := hQW j e; omega⟩, fun e => by have := hNW j e; omega⟩) 1 (by omega)
  have hne : ∀ j, j < X.heap.size → Nv.ownBlock ≠ some j → j ≠ z → (w'.setCell ⟨z, 5, none⟩ (.slice A' (N.length + 1) c')).heap[j]? = X.heap[j]? := fun j hj hn hz => (heap_setCell_other _ ⟨z, 5, none⟩ j _ hz).trans (r4 j hj hn)
  have hbx : w'.heap[z]? = some (.cells #[.int .i64 0, .int .i64 0, .int .i64 0, .int .i64 0, Bv, Nv] 84 (0, 0)) := (r4 z hzX fun e => by have := hN z e; omega).trans hX.box
  have hxw : Ext w w' := Below.trans hX.ext (r3 _ (by have := h.wz; omega))
  have hs5 : ∀ u : Value, (w'.setCell ⟨z, 5, none⟩ u).heap.size = w'.heap.size := fun u => by simp
  have hnn : ∀ j, (Value.slice A' (N.length + 1) c').ownBlock = some j → z < j ∧ (Nv.ownBlock = some j ∨ X.heap.size ≤ j) := fun j hj => by
    rcases r6 j hj with h1 | h1
    · exact ⟨by have := hN j h1; omega, .inl h1⟩
    · exact ⟨by omega, .inr h1⟩
  refine ⟨A', c', w', r1, hbx, hxw, r4, ?_⟩
  refine ⟨?_, own_move hX.bo (by rw [hs5]; exact r5) (fun j hj hl => hne j hl ?_ ?_) (fun j hj hl => ⟨hj.1, fun e => ?_, fun e => hj.2.2 (ho' j e)⟩), ?_, ?_, fun j hj e => ?_, fun j hj e => h.dbq j hj (ho' j e), fun j hj e => ?_, fun j hj => h.ow j (ho' j hj), h.q0, fun j hj hq => ?_, h.wz, hxw.setCell (p := ⟨z, 5, none⟩) h.wz _⟩
  · rw [heap_setCell_same _ z 5 _ 84 _ hbx]; rfl
  · rcases hj with hj | hj
    · exact hj.2.1
    · exact h.dbn j hj
  · rcases hj with hj | hj
    · omega
    · have := hB j hj; omega
  · rcases (hnn j e).2 with h1 | h1
    · exact hj.2.1 h1
    · omega
  · refine own_move r2 (by rw [hs5]; exact Nat.le_refl _) (fun j hj hl => heap_setCell_other _ ⟨z, 5, none⟩ j _ ?_) (fun j hj hl => ⟨hj.1, hj.2.1, fun e => hj.2.2 (ho' j e)⟩)
    rcases hj with hj | hj
    · show j ≠ z; omega
    · have := (hnn j hj).1; show j ≠ z; omega
  · refine Lay.que_keep (hq' X hX.qo) (by rw [hs5]; exact r5) fun j hj hl => hne j hl ?_ ?_
    · intro e
      rcases hj with hj | hj
      · have := hN j e; have := h.wz; omega
      · exact h.dnq j e (ho' j hj)
    · rcases hj with hj | hj
      · have := h.wz; omega
      · exact h.qz j (ho' j hj)
  · rcases (hnn j e).2 with h1 | h1
    · exact h.dbn j hj h1
    · have := hB j hj; omega
  · have e' := ho' j e
    rcases (hnn j hj).2 with h1 | h1
    · exact h.dnq j h1 e'
    · have := hQW j e'; have := hx.lt; omega
  · have hj2 : Nv.ownBlock ≠ some j := fun e => by have := hN j e; omega
    exact (hne j (by omega) hj2 (by omega)).trans (hX.keep j hj hq)
/-- A line is appended to the page. -/
theorem PgW.line (h : PgW w W0 z qv0 B N Q qv Bv Nv W) {X : World} (hx : Ext W X) {x : Ln} {cs : Array Value} (hr : kLn.rep X (fun j => W.heap.size ≤ j) x cs.toList) (hl : B.length < 1000000) :
    ∃ A' c' w', (Builtin.append_ #[82, 82] 82 #[Bv, .slice (some ⟨X.heap.size, 0, none⟩) 1 1]).run Tryz.prog (X.alloc (.cells cs 86)) = .ok (.slice A' (B.length + 1) c') w' ∧
      w'.heap[z]? = some (.cells #[.int .i64 0, .int .i64 0, .int .i64 0, .int .i64 0, Bv, Nv] 84 (0, 0)) ∧ Ext w w' ∧
      PgW w W0 z qv0 (B ++ [x]) N Q qv (.slice A' (B.length + 1) c') Nv (w'.setCell ⟨z, 4, none⟩ (.slice A' (B.length + 1) c')) := by
  have hX := h.mv hx
  have hzX := lt_of_block hX.box
  have hzW := lt_of_block h.box
  have hN := Lay.own_lt hX.no
  have hNW := Lay.own_lt h.no
  have hB := Lay.own_lt hX.bo
  have hBW := Lay.own_lt h.bo
  have hQW := Lay.que_lt h.qo
  obtain ⟨A', c', w', r1, r2, r3, r4, r5, r6⟩ := own_app1 (k := kLn) (Pr := Tryz.prog) (t := 82) Tryz.underlying82 info86 rfl (by decide) (by omega) hX.bo (by omega) (cs := cs) (T := 86) (x := x) (kLn.mono hr fun j hj hl => ⟨⟨by omega, fun e => by have := hNW j e; omega, fun e => by have := hQW j e; omega⟩, fun e => by have := hBW j e; omega⟩) 1 (by omega)
  have hne : ∀ j, j < X.heap.size → Bv.ownBlock ≠ some j → j ≠ z → (w'.setCell ⟨z, 4, none⟩ (.slice A' (B.length + 1) c')).heap[j]? = X.heap[j]? := fun j hj hn hz => (heap_setCell_other _ ⟨z, 4, none⟩ j _ hz).trans (r4 j hj hn)
  have hbx : w'.heap[z]? = some (.cells #[.int .i64 0, .int .i64 0, .int .i64 0, .int .i64 0, Bv, Nv] 84 (0, 0)) := (r4 z hzX fun e => by have := hB z e; omega).trans hX.box
  have hxw : Ext w w' := Below.trans hX.ext (r3 _ (by have := h.wz; omega))
  have hs5 : ∀ u : Value, (w'.setCell ⟨z, 4, none⟩ u).heap.size = w'.heap.size := fun u => by simp
  have hnn : ∀ j, (Value.slice A' (B.length + 1) c').ownBlock = some j → z < j ∧ (Bv.ownBlock = some j ∨ X.heap.size ≤ j) := fun j hj => by
    rcases r6 j hj with h1 | h1
    · exact ⟨by have := hB j h1; omega, .inl h1⟩
    · exact ⟨by omega, .inr h1⟩
  refine ⟨A', c', w', r1, hbx, hxw, ?_⟩
  refine ⟨?_, ?_, own_move hX.no (by rw [hs5]; exact r5) (fun j hj hl => hne j hl ?_ ?_) (fun j hj hl => ⟨hj.1, fun e => ?_, hj.2.2⟩), ?_, fun j hj e => ?_, fun j hj e => ?_, h.dnq, h.ow, h.q0, fun j hj hq => ?_, h.wz, hxw.setCell (p := ⟨z, 4, none⟩) h.wz _⟩
  · rw [heap_setCell_same _ z 4 _ 84 _ hbx]; rfl
  · refine own_move r2 (by rw [hs5]; exact Nat.le_refl _) (fun j hj hl => heap_setCell_other _ ⟨z, 4, none⟩ j _ ?_) (fun j hj hl => hj)
    rcases hj with hj | hj
    · show j ≠ z; omega
    · have := (hnn j hj).1; show j ≠ z; omega
  · rcases hj with hj | hj
    · exact hj.2.1
    · exact fun e => h.dbn j e hj
  · rcases hj with hj | hj
    · omega
    · have := hN j hj; omega
  · rcases (hnn j e).2 with h1 | h1
    · exact hj.2.1 h1
    · omega
  · refine Lay.que_keep hX.qo (by rw [hs5]; exact r5) fun j hj hl => hne j hl ?_ ?_
    · intro e
      rcases hj with hj | hj
      · have := hB j e; have := h.wz; omega
      · exact h.dbq j e hj
    · rcases hj with hj | hj
      · have := h.wz; omega
      · exact h.qz j hj
  · rcases (hnn j hj).2 with h1 | h1
    · exact h.dbn j h1 e
    · have := hN j e; omega
  · rcases (hnn j hj).2 with h1 | h1
    · exact h.dbq j h1 e
    · have := hQW j e; have := hx.lt; omega
  · have hj2 : Bv.ownBlock ≠ some j := fun e => by have := hB j e; omega
    exact (hne j (by omega) hj2 (by omega)).trans (hX.keep j hj hq)
/-- The queue grows. -/
theorem PgW.more (h : PgW w W0 z qv0 B N Q qv Bv Nv W) {A : Option Addr} {m : Nat} {ys : List Ln} (hr : kLn.row W (fun j => j < w.heap.size) A m ys) (c : Nat) (hm : Q.length + m ≤ 100000000) :
    ∃ A' c' w', (Builtin.append_ #[82, 82] 82 #[qv, .slice A m c]).run Tryz.prog W = .ok (.slice A' (Q.length + m) c') w' ∧ Ext w w' ∧ PgW w W0 z qv0 B N (Q ++ ys) (.slice A' (Q.length + m) c') Bv Nv w' := by
  have hzW := lt_of_block h.box
  have hNW := Lay.own_lt h.no
  have hBW := Lay.own_lt h.bo
  have hQW := Lay.que_lt h.qo
  obtain ⟨A', c', w', r1, r2, r3, r4, r5, r6⟩ := Lay.que_append (k := kLn) (Pr := Tryz.prog) (t := 82) Tryz.underlying82 info86 rfl (by decide) (by omega) h.qo (Lay.row_mono hr fun j hj _ => ⟨hj, fun e => by have := hQW j e; omega⟩) c hm h.ext.lt
  have hxw : Ext w w' := Below.trans h.ext (r3 _ (Nat.le_refl _))
  refine ⟨A', c', w', r1, hxw, (r4 z hzW fun e => h.qz z e rfl).trans h.box, own_move h.bo r5 (fun j hj hl => r4 j hl ?_) (fun j hj hl => ⟨hj.1, hj.2.1, fun e => ?_⟩), own_move h.no r5 (fun j hj hl => r4 j hl ?_) (fun j hj hl => ⟨hj.1, hj.2.1, fun e => ?_⟩), r2, h.dbn, fun j hj e => ?_, fun j hj e => ?_, fun j hj => ?_, h.q0, fun j hj hq => ?_, h.wz, hxw⟩
  · rcases hj with hj | hj
    · exact hj.2.2
    · exact h.dbq j hj
  · rcases r6 j e with h1 | h1
    · exact hj.2.2 h1
    · omega
  · rcases hj with hj | hj
    · exact hj.2.2
    · exact h.dnq j hj
  · rcases r6 j e with h1 | h1
    · exact hj.2.2 h1
    · omega
  · rcases r6 j e with h1 | h1
    · exact h.dbq j hj h1
    · have := hBW j hj; omega
  · rcases r6 j e with h1 | h1
    · exact h.dnq j hj h1
    · have := hNW j hj; omega
  · rcases r6 j hj with h1 | h1
    · exact h.ow j h1
    · exact .inr (by omega)
  · refine (r4 j (by omega) fun e => ?_).trans (h.keep j hj hq)
    rcases h.ow j e with h1 | h1
    · exact hq h1
    · omega
/-- What the call has put into pages already. -/
def OutW (w : World) (qv ov : Value) (pgs : List Pg) (W : World) : Prop := kPg.own 84 W w.heap.size (fun j => w.heap.size ≤ j ∧ qv.ownBlock ≠ some j) ov pgs ∧ ∀ j, ov.ownBlock = some j → qv.ownBlock ≠ some j
/-- The page is done. -/
theorem PgW.done (h : PgW w W0 z qv0 B N Q qv Bv Nv W) (hz : z = W0.heap.size) {ov : Value} {pgs : List Pg} (ho : OutW w qv0 ov pgs W0) (hl : pgs.length < 1000000) :
    ∃ A' c' w', (Builtin.append_ #[106, 106] 106 #[ov, .slice (some ⟨W.heap.size, 0, none⟩) 1 1]).run Tryz.prog (W.alloc (.cells #[.int .i64 0, .int .i64 0, .int .i64 0, .int .i64 0, Bv, Nv] 84)) = .ok (.slice A' (pgs.length + 1) c') w' ∧
      OutW w qv (.slice A' (pgs.length + 1) c') (pgs ++ [⟨0, 0, 0, 0, B, N⟩]) w' ∧ kLn.que 86 w' w.heap.size (fun j => j < w.heap.size) qv Q ∧ Ext w w' := by
  subst hz
  obtain ⟨ho1, ho2⟩ := ho
  have hzW := lt_of_block h.box
  have hNW := Lay.own_lt h.no
  have hBW := Lay.own_lt h.bo
  have hQW := Lay.que_lt h.qo
  have hOW := Lay.own_lt ho1
  have h1 : kPg.own 84 W w.heap.size (fun j => w.heap.size ≤ j ∧ qv.ownBlock ≠ some j) ov pgs := own_move ho1 (by omega) (fun j hj hl => h.keep j hl (by
      rcases hj with hj | hj
      · exact hj.2
      · exact ho2 j hj)) fun j hj hl => ⟨hj.1, fun e => by
    rcases h.ow j e with h1 | h1
    · exact hj.2 h1
    · omega⟩
  obtain ⟨A7, c7, e7, hc7, hr7⟩ := Lay.own_row h.bo
  obtain ⟨A8, c8, e8, hc8, hr8⟩ := Lay.own_row h.no
  have hq : ∀ j, ov.ownBlock = some j → qv.ownBlock ≠ some j := fun j hj e => by
    rcases h.ow j e with h1 | h1
    · exact ho2 j hj h1
    · have := hOW j hj; omega
  have hwz := h.wz
  obtain ⟨A', c', w', r1, r2, r3, r4, r5, r6⟩ := own_app1 (k := kPg) (Pr := Tryz.prog) (t := 106) Tryz.underlying106 info84 rfl (by decide) (by omega) h1 (by omega) (cs := #[.int .i64 0, .int .i64 0, .int .i64 0, .int .i64 0, Bv, Nv]) (T := 84) (x := ⟨0, 0, 0, 0, B, N⟩)
    (kPg_rep.2 ⟨A7, _, c7, A8, _, c8, by rw [e7, e8], hc7, hc8, Lay.row_mono hr7 fun j hj hl => by
      rcases hj with hj | hj
      · exact ⟨⟨by omega, hj.2.2⟩, fun e => by have := hOW j e; omega⟩
      · exact ⟨⟨by have := hBW j hj; omega, h.dbq j hj⟩, fun e => by have := hOW j e; have := hBW j hj; omega⟩, Lay.row_mono hr8 fun j hj hl => by
      rcases hj with hj | hj
      · exact ⟨⟨by omega, hj.2.2⟩, fun e => by have := hOW j e; omega⟩
      · exact ⟨⟨by have := hNW j hj; omega, h.dnq j hj⟩, fun e => by have := hOW j e; have := hNW j hj; omega⟩⟩) 1 (by omega)
  refine ⟨A', c', w', r1, ⟨r2, fun j hj e => ?_⟩, Lay.que_keep h.qo r5 fun j hj hl => r4 j hl ?_, Below.trans h.ext (r3 _ (Nat.le_refl _))⟩
  · rcases r6 j hj with h1 | h1
    · exact hq j h1 e
    · have := hQW j e; omega
  · intro e
    rcases hj with hj | hj
    · have := hOW j e; omega
    · exact hq j e hj
end Go.Proofs.YtdbnddmncbjobaaGreatDoor

/- The reference's Set: what its loops reckon, in plain Lean. -/
namespace Go.Proofs.YtdbnddmncbjobaaGreatDoor

theorem fits_eq {h : Int} {q : List Ln} {l s : Nat} (hi : FillI h q l (s : Int)) (x : Ln) : fitsR l s x.nts.length ((q.length - s : Nat) : Int) h = fitsP h q x l (s : Int) := by
  have h1 := hi.le
  unfold fitsR fitsP roomP usedN
  cases hx : x.nts with
  | nil =>
    simp only [List.length_nil, if_true]
    exact decide_eq_decide.2 (by omega)
  | cons a r =>
    rw [if_neg (by simp), if_neg (by simp)]
    exact decide_eq_decide.2 (by omega)
theorem show_step {h : Int} {q' : List Ln} {l s j : Nat} (h1 : s ≤ j) (h2 : (j : Int) ≤ showP h q' (l + 1) (s : Int)) :
    (j < q'.length ∧ (l : Int) + j + 3 ≤ h → ((j + 1 : Nat) : Int) ≤ showP h q' (l + 1) (s : Int)) ∧ (¬ (j < q'.length ∧ (l : Int) + j + 3 ≤ h) → (j : Int) = showP h q' (l + 1) (s : Int)) := by
  unfold showP roomP at *
  constructor
  · intro h3
    split at h2
    · next h4 => rw [if_pos h4]; omega
    · next h4 => omega
  · intro h3
    split at h2
    · next h4 => rw [if_pos h4]; omega
    · next h4 => rw [if_neg h4]; omega
theorem take_more {q e : List Ln} {s : Nat} (h : s ≤ q.length) : (q ++ e).take s = q.take s := List.take_append_of_le_length h
theorem drop_more {q e : List Ln} {s : Nat} (h : s ≤ q.length) : (q ++ e).drop s = q.drop s ++ e := List.drop_append_of_le_length h
theorem take_one {q : List Ln} {s : Nat} {x : Ln} (h : q[s]? = some x) : q.take (s + 1) = q.take s ++ [x] := by rw [List.take_add_one, h]; rfl
theorem drop_one {q : List Ln} {s : Nat} : (q.drop s).drop 1 = q.drop (s + 1) := by rw [List.drop_drop]
theorem leftP_cons (notes : List (List Ln)) (x : Ln) (r q : List Ln) : leftP notes (x :: r) q = leftP notes r (q ++ notesOf notes x) + 1 := by
  unfold leftP
  simp only [List.map_cons, List.sum_cons, List.length_append]
  omega
theorem LnsB.drop {l : List Ln} (h : LnsB l) (k : Nat) : LnsB (l.drop k) := fun x hx => h x (List.mem_of_mem_drop hx)
theorem LnsB.app {l r : List Ln} (h : LnsB l) (k : LnsB r) : LnsB (l ++ r) := fun x hx => by
  rcases List.mem_append.1 hx with hx | hx
  · exact h x hx
  · exact k x hx
theorem lnsB_notes {notes : List (List Ln)} (h : ∀ l ∈ notes, LnsB l) (x : Ln) : LnsB (notesOf notes x) := fun y hy => by
  unfold notesOf at hy
  obtain ⟨n, _, hn⟩ := List.mem_flatMap.1 hy
  cases hl : notes[n.toNat]? with
  | none => rw [hl] at hn; simp at hn
  | some l => rw [hl] at hn; exact h l (List.mem_of_getElem? hl) y hn
def slen (v : Go.Value) : Nat := match v with | .slice _ n _ => n | _ => 0
open Go in
def VsO (w : World) (M : Nat) (h : Int) (notes : List (List Ln)) (body : List Ln) (all : List (List Ln × List Ln)) (s9 s10 s11 : Value) (W : World) : Prop :=
  ∃ (a : Nat) (q : List Ln) (pgs : List (List Ln × List Ln)), a ≤ body.length ∧ s11 = .int .i64 a ∧ OutW w s10 s9 (pgs.map pgOf) W ∧ kLn.que 86 W w.heap.size (fun j => j < w.heap.size) s10 q ∧
    all = pgs ++ setF h notes (leftP notes (body.drop a) q) (body.drop a) q ∧ pgs.length + leftP notes (body.drop a) q ≤ M ∧ LnsB q ∧ Ext w W
open Go in
def VsA (w W0 : World) (z : Nat) (qv0 : Value) (h : Int) (q : List Ln) (s10 : Value) (W : World) : Prop := ∃ (s : Nat) (Nv : Value), s ≤ q.length ∧ (s : Int) ≤ h - 1 ∧ PgW w W0 z qv0 [] (q.take s) (q.drop s) s10 (.slice none 0 0) Nv W
open Go in
def VsB (w W0 : World) (z : Nat) (qv0 : Value) (M : Nat) (h : Int) (notes : List (List Ln)) (body : List Ln) (a : Nat) (r0 : Nat × List Ln × Int) (s10 s11 : Value) (W : World) : Prop :=
  ∃ (l s k : Nat) (q : List Ln) (Bv Nv : Value), k = a + l ∧ k ≤ body.length ∧ s11 = .int .i64 k ∧ FillI h q l (s : Int) ∧ fillP h notes (body.drop k) q l (s : Int) = r0 ∧ LnsB q ∧ leftP notes (body.drop k) q ≤ M ∧
    PgW w W0 z qv0 ((body.drop a).take l) (q.take s) (q.drop s) s10 Bv Nv W
open Go in
def VsC (w W0 : World) (z : Nat) (qv0 : Value) (B N Q : List Ln) (notes : List (List Ln)) (nts : List Int) (s10 s13 : Value) (W : World) : Prop :=
  ∃ (j : Nat) (Bv Nv : Value), j ≤ nts.length ∧ s13 = .int .i64 j ∧ PgW w W0 z qv0 B N (Q ++ notesUp notes (nts.take j)) s10 Bv Nv W
open Go in
def VsD (w W0 : World) (z : Nat) (qv0 : Value) (h : Int) (B q : List Ln) (l s : Nat) (s10 : Value) (W : World) : Prop :=
  ∃ (j : Nat) (Bv Nv : Value), s ≤ j ∧ (j : Int) ≤ showP h q (l + 1) (s : Int) ∧ PgW w W0 z qv0 B (q.take j) (q.drop j) s10 Bv Nv W
end Go.Proofs.YtdbnddmncbjobaaGreatDoor
