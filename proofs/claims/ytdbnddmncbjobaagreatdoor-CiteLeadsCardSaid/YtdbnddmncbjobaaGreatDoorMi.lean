/- rollbookref28.Book: walked. -/
import Derived.Test.YtdbnddmncbjobaaGreatDoorMh
import Derived.Deep.RegionLaw
import Derived.Deep.RegionHeld3
import Derived.StillTailTactics
import Derived.Test.YtdbnddmncbjobaaGreatDoorMa
import Derived.Test.YtdbnddmncbjobaaGreatDoorMg
import Derived.Deep.DeepCutAuto
import Derived.Test.YtdbnddmncbjobaaGreatDoorMc
import Derived.Lib.AppendZeros
namespace Go.Proofs.YtdbnddmncbjobaaGreatDoor
open Go Go.RowKit

theorem toNat_97 {d : Nat} (h : d < 26) : (UInt8.ofNat (97 + d)).toNat = 97 + d := by
  rw [UInt8.toNat_ofNat']; omega
theorem lets_all (u : Nat) : (lets u).all low = true ∧ sval 0 (lets u) = u := by
  induction u using Nat.strongRecOn with
  | _ u ih =>
    by_cases h : u = 0
    · subst h; rw [lets_zero]; exact ⟨rfl, rfl⟩
    · obtain ⟨h1, h2⟩ := ih ((u - 1) / 26) (by omega)
      have e := toNat_97 (d := (u - 1) % 26) (by omega)
      rw [lets_pos h]
      refine ⟨by rw [List.all_append, h1]; simp [low]; omega, by rw [sval_snoc, h2, e]; omega⟩
theorem labP_text (n s : Nat) (hn : 1 ≤ n ∧ n ≤ 16384) (hs : s ≤ 16384) : labP (Lib.decDigits n ++ lets s) = some (n, s) := by
  obtain ⟨h1, h2, h3, h4⟩ := dec_all n
  obtain ⟨h5, h6⟩ := lets_all s
  have tw : (Lib.decDigits n ++ lets s).takeWhile dig = Lib.decDigits n ∧ (Lib.decDigits n ++ lets s).dropWhile dig = lets s := by
    have key : ∀ (a b : List UInt8), a.all dig = true → b.all low = true → (a ++ b).takeWhile dig = a ∧ (a ++ b).dropWhile dig = b := by
      intro a b ha hb
      induction a with
      | nil =>
        cases b with
        | nil => exact ⟨rfl, rfl⟩
        | cons c b =>
          simp only [List.all_cons, Bool.and_eq_true] at hb
          have := dig_low hb.1
          simp [this]
      | cons d a ih =>
        simp only [List.all_cons, Bool.and_eq_true] at ha
        have := ih ha.2
        simp [ha.1, this]
    exact key _ _ h1 h5
  have hl5 : (Lib.decDigits n).length ≤ 5 := by
    rw [Lib.decDigits_length]
    by_cases h : n < 10
    · rw [Lib.nDigits_small h]; omega
    · rw [Lib.nDigits_big h]
      by_cases h : n / 10 < 10
      · rw [Lib.nDigits_small h]; omega
      · rw [Lib.nDigits_big h]
        by_cases h : n / 10 / 10 < 10
        · rw [Lib.nDigits_small h]; omega
        · rw [Lib.nDigits_big h]
          by_cases h : n / 10 / 10 / 10 < 10
          · rw [Lib.nDigits_small h]; omega
          · rw [Lib.nDigits_big h, Lib.nDigits_small (by omega)]; omega
  have hl4 : (lets s).length ≤ 4 := lets_len 4 s (by omega)
  unfold labP
  rw [tw.1, tw.2, if_pos, h2, h6]
  refine ⟨?_, hl5, ?_, hl4, h5⟩
  · cases hd : Lib.decDigits n with
    | nil => exact absurd hd h3
    | cons => simp
  · have := h4 (by omega)
    cases hd : Lib.decDigits n with
    | nil => exact absurd hd h3
    | cons a l => rw [hd] at this; simpa using this
theorem noSl_all {p : UInt8 → Bool} {l : List UInt8} (h : l.all p = true) (h47 : p 47 = false) : NoSl l := fun c hc e => by
  have := List.all_eq_true.1 h c hc
  subst e; rw [h47] at this; cases this
theorem parse_text {c : Ct} (h : citB c = true) : parseP (textPC c) = (c, 0) := by
  obtain ⟨h1, h2, h3, h4, h5, h6, h7, h8⟩ := citB_cases h
  obtain ⟨br, nu, su, li⟩ := c
  obtain ⟨br, rfl⟩ : ∃ k : Nat, br = k := ⟨br.toNat, by simp at h1; omega⟩
  obtain ⟨nu, rfl⟩ : ∃ k : Nat, nu = k := ⟨nu.toNat, by simp at h5; omega⟩
  obtain ⟨su, rfl⟩ : ∃ k : Nat, su = k := ⟨su.toNat, by simp at h7; omega⟩
  obtain ⟨li, rfl⟩ : ∃ k : Nat, li = k := ⟨li.toNat, by simp at h3; omega⟩
  simp only at h1 h2 h3 h4 h5 h6 h7 h8
  unfold textPC
  rw [if_pos h]
  simp only [Int.toNat_natCast]
  unfold parseP
  rw [parts_cut _ _ (noSl_all (dec_all br).1 rfl), parts_cut _ _ (NoSl.append (noSl_all (dec_all nu).1 rfl) (noSl_all (lets_all su).1 rfl)), parts_no _ (noSl_all (dec_all li).1 rfl)]
  show read3 _ _ _ = _
  rw [read3_ok (numP_dec (by omega)) (numP_dec (by omega)) (labP_text nu su (by omega) (by omega)), if_pos]
  · rfl
  · exact h
set_option maxHeartbeats 8000000 in
set_option maxRecDepth 100000 in
theorem gbook_any (A : Option Addr) (c : Nat) (l : List Int) (w : World) (h : IL w A c l) (hl : l.length ≤ 9223372036854775807) :
    Calls Tryz.prog 39 #[.slice A l.length c] w (BookGet w) := by
  have HTX := Lib.hid (fun W (hW : Ext w W) (k : Nat) (hk : k ≤ 1000000) => gtextat_any A c l k W (h.ext hW) hl hk)
  obtain ⟨m, hm⟩ : ∃ m, m = l.length := ⟨_, rfl⟩
  have HP := Lib.hid (fun W (hW : Ext w W) (i k : Nat) (ii mm : Int) h1 h2 h3 h4 => (show Calls Tryz.prog 77 #[.slice A m c, .int .i64 ii, .int .i64 mm] W (fun e w' => e = .returned (.int .i64 (pkI l i k)) ∧ W = w') from by rw [hm]; exact pick_fix A c l i k W ii mm h1 h2 h3 h4 h.ok (h.sl.ext hW)))
  rw [← hm] at HTX ⊢
  clear hm h hl
  obtain ⟨k0, hk0, hk0b⟩ := pk_nat l 0 30 (by omega)
  obtain ⟨k1, hk1, hk1b⟩ := pk_nat l 1 5 (by omega)
  obtain ⟨n, hn, hnb⟩ := pk_nat l 2 5 (by omega)
  obtain ⟨fr, hfr, hfrb⟩ := pk_nat l 3 (n + 1) (by omega)
  have H0 := Lib.hid (fun W hW => (show Calls Tryz.prog 77 #[.slice A m c, .int .i64 0, .int .i64 30] W (fun e w' => e = .returned (.int .i64 (k0 : Int)) ∧ W = w') from by rw [← hk0]; exact HP.out W hW 0 30 0 30 rfl rfl (by omega) (by omega)))
  have H1 := Lib.hid (fun W hW => (show Calls Tryz.prog 77 #[.slice A m c, .int .i64 1, .int .i64 5] W (fun e w' => e = .returned (.int .i64 (k1 : Int)) ∧ W = w') from by rw [← hk1]; exact HP.out W hW 1 5 1 5 rfl rfl (by omega) (by omega)))
  have H2 := Lib.hid (fun W hW => (show Calls Tryz.prog 77 #[.slice A m c, .int .i64 2, .int .i64 5] W (fun e w' => e = .returned (.int .i64 (n : Int)) ∧ W = w') from by rw [← hn]; exact HP.out W hW 2 5 2 5 rfl rfl (by omega) (by omega)))
  have H3 := Lib.hid (fun W hW => (show Calls Tryz.prog 77 #[.slice A m c, .int .i64 3, .int .i64 ((n : Int) + 1)] W (fun e w' => e = .returned (.int .i64 (fr : Int)) ∧ W = w') from by rw [← hfr]; exact HP.out W hW 3 (n + 1) 3 _ rfl (by simp) (by omega) (by omega)))
  clear hk0 hk1 hn hfr
  go_enter Tryz.func39, Tryz.ntmps39
  have hx1 : Ext w (w.alloc (.cells #[.int .i64 0, .int .i64 0, .slice none 0 0] 27)) := (Ext.refl w).alloc _
  go_upto_region 2 with (first
    | (have hg := A1; clear hg; go_at_call 77; refine (H1.out _ hx1).mono ?_; rintro e w1 ⟨rfl, rfl⟩)
    | (go_at_call 77; refine (H0.out _ hx1).mono ?_; rintro e w1 ⟨rfl, rfl⟩; have A1 := Lib.hid True.intro))
  obtain ⟨wl, hwl⟩ : ∃ wl, ((w.alloc (.cells #[.int .i64 0, .int .i64 0, .slice none 0 0] 27)).alloc (.cells #[.int .i64 (500 + 20 * (k0 : Int)), .int .i64 (4 + (k1 : Int)), .slice none 0 0] 27)) = wl := ⟨_, rfl⟩
  obtain ⟨ms, hms⟩ : ∃ ms : Int, ms = 500 + 20 * (k0 : Int) := ⟨_, rfl⟩
  obtain ⟨ht, hht⟩ : ∃ ht : Int, ht = 4 + (k1 : Int) := ⟨_, rfl⟩
  have hS0 : BgS w ms ht fr [] (.slice none 0 0) wl := by
    refine ⟨by rw [← hwl]; exact hx1.alloc _, ?_, ?_, Lay.own_nil _ _ _ _ _, fun k x hk => by simp at hk⟩
    · rw [← hwl, heap_alloc_old _ _ _ (by simp)]; exact heap_alloc_at _ _ _ _ rfl
    · rw [← hwl, hms, hht]; exact heap_alloc_at _ _ _ _ (by simp)
  rw [hwl]
  have HM := Lib.hid (And.intro hms hht)
  have HS0 := Lib.hid hS0
  have HXL := Lib.hid hS0.x
  clear hwl hms hht hS0 hx1
  go_upto_region 3 with (first | (go_at_call 77; refine (H2.out _ HXL.out).mono ?_; rintro e w1 ⟨rfl, rfl⟩))
  go_upto_region 4 with (first | (go_at_call 77; refine (H3.out _ HXL.out).mono ?_; rintro e w1 ⟨rfl, rfl⟩))
  clear H0 H1 H2 H3 A1
  go_wp2_with fail
  go_loopw [6] (fun s6 W => BgR w ms ht fr n s6 W) (fun s6 _ => toM n s6)
  case atStart => exact ⟨[], none, 0, by simp, rfl, HS0.out⟩
  case round =>
    obtain ⟨secs, As, cs, hi, rfl, hS⟩ := hrel
    clear HS0 HXL
    obtain ⟨i, hie⟩ : ∃ i, secs.length = i := ⟨_, rfl⟩
    rw [hie] at hi hS ⊢
    have HI := Lib.hid hie
    have HS := Lib.hid hS
    clear hie hS
    by_cases hlt : i < n
    case neg =>
      obtain rfl : i = n := by omega
      have hni : ¬ ((i : Int) < (i : Int)) := by omega
      have k0 := cell_of HS.out.r (i := 0) (u := .int .i64 0) rfl
      have k1 := cell_of HS.out.r (i := 1) (u := .int .i64 0) rfl
      have k2 := cell_of HS.out.r (i := 2) (u := .slice none 0 0) rfl
      have f0 := frozen_of HS.out.r 0
      have f1 := frozen_of HS.out.r 1
      have f2 := frozen_of HS.out.r 2
      have b0 := cell_of HS.out.b (i := 0) (u := .int .i64 ms) rfl
      have b1 := cell_of HS.out.b (i := 1) (u := .int .i64 ht) rfl
      have b2 := cell_of HS.out.b (i := 2) (u := .slice As i cs) rfl
      go_wp2_with fail
      have hrow := own_rowN (Q := fun j => w.heap.size + 2 ≤ j) HS.out.own (fun j hj _ => hj) (fun j hj _ => hj)
      obtain ⟨A9, c9, e9, hc9, hr9⟩ := hrow
      rw [HI.out] at e9 hc9 hr9
      obtain ⟨rfl, _, rfl⟩ := Value.slice.inj e9
      refine bodyPost_ret (v := .agg #[.int .i64 ms, .int .i64 ht, .slice As i cs]) (by simp [results, Tryz.results39, go_sem, *]) rfl ?_
      obtain ⟨hm1, hm2⟩ := HM.out
      refine ⟨⟨ms, ht, secs⟩, As, i, cs, rfl, ⟨by show 500 ≤ ms; omega, by show ms ≤ 2000; omega, by show 4 ≤ ht; omega, by show ht ≤ 100; omega, by show secs.length ≤ 4; have := HI.out; omega, ⟨fr, HS.out.ok⟩⟩, hc9, ?_, ?_⟩
      · refine Lay.row_mono (Lay.row_keep hr9 (by simp) fun j hj _ => ?_) fun j hj _ => by omega
        rw [heap_setCell_other _ ⟨w.heap.size, 2, none⟩ j _ (by show j ≠ w.heap.size; omega), heap_setCell_other _ ⟨w.heap.size, 1, none⟩ j _ (by show j ≠ w.heap.size; omega), heap_setCell_other _ ⟨w.heap.size, 0, none⟩ j _ (by show j ≠ w.heap.size; omega)]
      · exact ((HS.out.x.setCell (p := ⟨w.heap.size, 0, none⟩) (Nat.le_refl _) _).setCell (p := ⟨w.heap.size, 1, none⟩) (Nat.le_refl _) _).setCell (p := ⟨w.heap.size, 2, none⟩) (Nat.le_refl _) _
    have hlI : (i : Int) < (n : Int) := by omega
    obtain ⟨k4, hk4, hk4b⟩ := pk_nat l (4 + i) 2 (by omega)
    have H4 := Lib.hid (fun W hW => (show Calls Tryz.prog 77 #[.slice A m c, .int .i64 (4 + (i : Int)), .int .i64 2] W (fun e w' => e = .returned (.int .i64 (k4 : Int)) ∧ W = w') from by rw [← hk4]; exact HP.out W hW (4 + i) 2 _ _ (by omega) rfl (by omega) (by omega)))
    clear hk4
    go_upto_region 8 with (first | (go_at_call 77; refine (H4.out _ HS.out.x).mono ?_; rintro e w1 ⟨rfl, rfl⟩))
    obtain ⟨Bs, hBs⟩ : ∃ Bs, wr.heap.size = Bs := ⟨_, rfl⟩
    obtain ⟨ent, hent⟩ : ∃ ent : Int, 2 * (i : Int) + (k4 : Int) = ent := ⟨_, rfl⟩
    obtain ⟨fz, hfz⟩ : ∃ fz : Bool, decide (i < fr) = fz := ⟨_, rfl⟩
    obtain ⟨v0, hv0⟩ : ∃ v0 : Int, 10 - (i : Int) = v0 := ⟨_, rfl⟩
    obtain ⟨w1, hw1⟩ : ∃ w1, (wr.alloc (.cells #[.int .i64 v0] 3)).alloc (.cells #[.int .i64 ent, .bool fz, .slice (some ⟨Bs, 0, none⟩) 1 1, .slice none 0 0] 46) = w1 := ⟨_, rfl⟩
    obtain ⟨zs, hzs⟩ : ∃ zs, Bs + 1 = zs := ⟨_, rfl⟩
    rw [hBs, hent, hfz, hv0]
    rw [hw1, hzs]
    have HIN := Lib.hid (show InS w ms ht fr secs (.slice As i cs) Bs zs ent fz (.slice (some ⟨Bs, 0, none⟩) 1 1) (.slice none 0 0) [v0] [] w1 from by
      have hlow := HS.out.low
      rw [hBs] at hlow
      have hxv : Ext wr (wr.alloc (.cells #[.int .i64 v0] 3)) := (Ext.refl wr).alloc _
      have hx1 : Ext wr w1 := by rw [← hw1]; exact hxv.alloc _
      have ho : kInt.own 3 (wr.alloc (.cells #[.int .i64 v0] 3)) Bs (fun _ => False) (.slice (some ⟨wr.heap.size, 0, none⟩) 1 1) [v0] := own_new (by omega) rfl
      rw [hBs] at ho
      refine ⟨hlow.keep (by rw [← hBs]; exact hx1), ?_, ?_, Lay.own_nil _ _ _ _ _, ?_, ?_, ?_, by omega⟩
      · rw [← hw1]; exact heap_alloc_at _ _ _ _ (by simp; omega)
      · rw [← hw1]; exact Lay.own_ext ho ((Ext.refl _).alloc _)
      · intro e; have : some Bs = some zs := e; injection this; omega
      · intro e; cases e
      · intro j _ e; cases e)
    have HSO := Lib.hid (And.intro hent (And.intro hfz hv0))
    have HB := Lib.hid hBs
    have HK4 := Lib.hid (show k4 ≤ 1 by omega)
    clear hBs hent hfz hv0 hw1 hzs
    have HT8 := Lib.hid (fun W (hW : Ext w W) => (show Calls Tryz.prog 87 #[.slice A m c, .int .i64 (12 + 6 * (i : Int))] W (TextGet W) from by
      have h9 := HTX.out W hW (12 + 6 * i) (by omega)
      rw [show ((12 + 6 * i : Nat) : Int) = 12 + 6 * (i : Int) by omega] at h9
      exact h9))
    have HT8' := Lib.hid (show Calls Tryz.prog 87 #[.slice A m c, .int .i64 (12 + 6 * (i : Int))] w1 (fun e w2 => ∃ t A1 n1 c1 A2 n2 c2, e = .returned (.agg #[.slice A1 n1 c1, .slice A2 n2 c2]) ∧ OkT t ∧ GT w1.heap.size t (.agg #[.slice A1 n1 c1, .slice A2 n2 c2]) w2 ∧ Ext w1 w2 ∧ w2.heap[zs]? = some (.cells #[.int .i64 ent, .bool fz, .slice (some ⟨Bs, 0, none⟩) 1 1, .slice none 0 0] 46 (0, 0))) from by
      refine (HT8.out w1 HIN.out.low.x).mono ?_
      rintro e w2 ⟨t, v, rfl, hok, hgt, hx⟩
      have hg2 := hgt
      obtain ⟨A1, n1, c1, A2, n2, c2, rfl, h1, h2, h3, h4⟩ := hgt
      exact ⟨t, A1, n1, c1, A2, n2, c2, rfl, hok, hg2, hx, (hx.block _ HIN.out.lt).trans HIN.out.s⟩)
    clear HT8
    go_upto_region 9 with (first | (go_at_call 87; refine (HT8'.out).mono ?_; rintro e w2 ⟨t, A1, n1, c1, A2, n2, c2, rfl, hok, hg, hx, hh⟩; have k3 := cell_of hh (i := 3) (u := .slice none 0 0) rfl; have f3 := frozen_of hh 3; have hzl := lt_of_block hh; have hzn : ¬ zs = w2.heap.size := (by omega); have HG := Lib.hid hg; have HX := Lib.hid hx; have HH := Lib.hid hh; have HOK := Lib.hid hok; clear hg hx hh hok))
    obtain ⟨w3, hw3⟩ : ∃ w3, ((w2.setCell ⟨zs, 3, none⟩ (.slice (some ⟨w2.heap.size, 0, none⟩) 1 1)).alloc (.cells #[.slice A1 n1 c1, .slice A2 n2 c2] 53)) = w3 := ⟨_, rfl⟩
    have hin3 := HIN.out.firstT HX.out HG.out
    obtain ⟨zt, hzt⟩ : ∃ zt, w2.heap.size = zt := ⟨_, rfl⟩
    rw [hzt] at hw3 hin3 ⊢
    rw [hw3] at hin3 ⊢
    have HIN3 := Lib.hid hin3
    clear hin3 hw3 hzt HIN HX HG HH HT8' hzl hzn k3 f3 H4
    obtain ⟨k8, hk8, hk8b⟩ := pk_nat l (8 + i) 3 (by omega)
    have H8 := Lib.hid (fun W hW => (show Calls Tryz.prog 77 #[.slice A m c, .int .i64 (8 + (i : Int)), .int .i64 3] W (fun e w' => e = .returned (.int .i64 (k8 : Int)) ∧ W = w') from by rw [← hk8]; exact HP.out W hW (8 + i) 3 _ _ (by omega) rfl (by omega) (by omega)))
    clear hk8
    go_wp2_with fail
    go_loopw [8] (fun s8 W => InR w ms ht fr secs (.slice As i cs) Bs zs ent fz v0 i s8 W) (fun s8 _ => toM 10 s8)
    case atStart => exact ⟨0, _, _, _, _, _, _, by omega, rfl, fun h => absurd rfl h, rfl, rfl, fun t ht => by (simp only [List.mem_singleton] at ht; subst ht; exact HOK.out), HIN3.out⟩
    case round =>
      clear HIN3 HS HOK
      rename World => wi
      obtain ⟨k, Av, Bt, cv, dt, vers, texts, hk2, rfl, hkf, hve, htl, hto, hIn⟩ := hrel
      have HVE := Lib.hid hve
      have HTL := Lib.hid htl
      have HTO := Lib.hid hto
      have HKF := Lib.hid hkf
      have HIN := Lib.hid hIn
      have s0 := cell_of hIn.s (i := 0) (u := .int .i64 ent) rfl
      have s1 := cell_of hIn.s (i := 1) (u := .bool fz) rfl
      have s2 := cell_of hIn.s (i := 2) (u := .slice Av (k + 1) cv) rfl
      have s3 := cell_of hIn.s (i := 3) (u := .slice Bt (k + 1) dt) rfl
      have f2 := frozen_of hIn.s 2
      have f3 := frozen_of hIn.s 3
      have hzl := hIn.lt
      clear hkf hve htl hto hIn
      by_cases hkk : k < k8 ∧ fz = true
      case neg =>
        have HSC := Lib.hid (show SecOk fr secs.length ⟨ent, fz, vers, texts⟩ from by
          obtain ⟨e1, e2, e3⟩ := HSO.out
          rw [HI.out]
          refine ⟨⟨by show 2 * (i : Int) ≤ ent; omega, by show ent ≤ 2 * (i : Int) + 1; have := HK4.out; omega⟩, e2.symm, ⟨k, hk2, fun h0 => ?_, by rw [e3]; exact HVE.out, HTL.out⟩, HTO.out⟩
          have := HKF.out h0
          rw [← e2] at this
          simpa using this)
        obtain ⟨A5, c5, w5, hrun, hb5, hS5⟩ := HIN.out.fin (by have := HI.out; omega) HSC.out
        rw [HI.out] at hrun hS5
        have HREL := Lib.hid (show BgR w ms ht fr n (.int .i64 ((i : Int) + 1)) (w5.setCell ⟨w.heap.size + 1, 2, none⟩ (.slice A5 (i + 1) c5)) from
          ⟨secs ++ [⟨ent, fz, vers, texts⟩], A5, c5, by rw [List.length_append, HI.out]; exact hlt, by rw [List.length_append, HI.out]; rfl, by rw [List.length_append, HI.out]; exact hS5⟩)
        have b2 := cell_of HIN.out.low.b (i := 2) (u := .slice As i cs) rfl
        have hbl : w.heap.size + 1 < wi.heap.size := lt_of_block HIN.out.low.b
        have hbn : ¬ w.heap.size + 1 = wi.heap.size := by omega
        have b5 := cell_of hb5 (i := 2) (u := .slice As i cs) rfl
        have g5 := frozen_of hb5 2
        have hzn : ¬ zs = wi.heap.size := by omega
        clear hS5 hb5 hk2
        by_cases hk9 : k < k8
        · have hf9 : fz = false := by
            cases fz
            · rfl
            · exact absurd ⟨hk9, rfl⟩ hkk
          subst hf9
          have gk : decide ((k : Int) < (k8 : Int)) = true := by rw [decide_eq_true_eq]; omega
          have gk2 : decide (k < k8) = true := by simpa using hk9
          clear hkk
          go_wp2_with (first
            | (go_at_call 77; refine (H8.out _ HIN.out.low.x).mono ?_; rintro e w1 ⟨rfl, rfl⟩)
            | (at_builtin; refine wpList_append_run (s := .tmp 86) (x := .tmp 88) hrun rfl rfl rfl rfl rfl ?_))
          go_roundw
          case rel => exact HREL.out
          case measure => simp only [toM]; omega
        · have gk : decide ((k : Int) < (k8 : Int)) = false := by rw [decide_eq_false_iff_not]; omega
          have gk2 : decide (k < k8) = false := by simpa using hk9
          clear hkk
          go_wp2_with (first
            | (go_at_call 77; refine (H8.out _ HIN.out.low.x).mono ?_; rintro e w1 ⟨rfl, rfl⟩)
            | (at_builtin; refine wpList_append_run (s := .tmp 86) (x := .tmp 88) hrun rfl rfl rfl rfl rfl ?_))
          go_roundw
          case rel => exact HREL.out
          case measure => simp only [toM]; omega
      obtain ⟨hk8', hfz⟩ := hkk
      subst hfz
      have hkI : (k : Int) < (k8 : Int) := by omega
      have gk : decide ((k : Int) < (k8 : Int)) = true := by simpa using hk8'
      have gk2 : decide (k < k8) = true := by simpa using hk8'
      go_upto_region 12 with (first | (go_at_call 77; refine (H8.out _ HIN.out.low.x).mono ?_; rintro e w1 ⟨rfl, rfl⟩))
      have HVL := Lib.hid (show vers.length = k + 1 by rw [HVE.out]; simp)
      obtain ⟨A5, c5, w5, hrun, hz5, hin5⟩ := HIN.out.appV (30 + 7 * (i : Int) - 3 * (k : Int)) (by have := HVL.out; omega)
      rw [HVL.out] at hrun hin5
      have z2 := cell_of hz5 (i := 2) (u := .slice Av (k + 1) cv) rfl
      have y2 := frozen_of hz5 2
      have hzn : ¬ zs = wi.heap.size := by omega
      have HIN5 := Lib.hid hin5
      clear hin5 hz5
      go_upto_region 13 with (first | (at_builtin; refine wpList_append_run (s := .tmp 62) (x := .tmp 69) hrun rfl rfl rfl rfl rfl ?_))
      obtain ⟨w6, hw6⟩ : ∃ w6, w5.setCell ⟨zs, 2, none⟩ (.slice A5 (k + 1 + 1) c5) = w6 := ⟨_, rfl⟩
      rw [hw6] at HIN5 ⊢
      clear hrun hw6 z2 y2 hzn s0 s1 s2 s3 f2 f3 hzl H8 HIN
      have hzl := HIN5.out.lt
      have hzn : ¬ zs = w6.heap.size := by omega
      have s3 := cell_of HIN5.out.s (i := 3) (u := .slice Bt (k + 1) dt) rfl
      have HT13 := Lib.hid (fun W (hW : Ext w6 W) => (show Calls Tryz.prog 87 #[.slice A m c, .int .i64 (15 + 6 * (i : Int) + 7 * (k : Int))] W (fun e w2 => ∃ t A1 n1 c1 A2 n2 c2, e = .returned (.agg #[.slice A1 n1 c1, .slice A2 n2 c2]) ∧ OkT t ∧ GT w6.heap.size t (.agg #[.slice A1 n1 c1, .slice A2 n2 c2]) w2 ∧ Ext w6 w2) from by
        have h9 := HTX.out W (HIN5.out.low.x.trans hW) (15 + 6 * i + 7 * k) (by omega)
        rw [show ((15 + 6 * i + 7 * k : Nat) : Int) = 15 + 6 * (i : Int) + 7 * (k : Int) by omega] at h9
        refine h9.mono ?_
        rintro e w2 ⟨t, v, rfl, hok, hgt, hx⟩
        have hg2 := hgt.low hW.lt
        obtain ⟨A1, n1, c1, A2, n2, c2, rfl, h1, h2, h3, h4⟩ := hgt
        exact ⟨t, A1, n1, c1, A2, n2, c2, rfl, hok, hg2, hW.trans hx⟩))
      have g6 : IntKind.i64.wrap (6 * (i : Int)) = 6 * (i : Int) := IntWalk.i64_in _ (by omega)
      have g15 : IntKind.i64.wrap (15 + 6 * (i : Int)) = 15 + 6 * (i : Int) := IntWalk.i64_in _ (by omega)
      have g7 : IntKind.i64.wrap (7 * (k : Int)) = 7 * (k : Int) := IntWalk.i64_in _ (by omega)
      have g80 : IntKind.i64.wrap (15 + 6 * (i : Int) + 7 * (k : Int)) = 15 + 6 * (i : Int) + 7 * (k : Int) := IntWalk.i64_in _ (by omega)
      go_region_law (first
        | (go_simp; go_at_call 87; refine (HT13.out _ ((Ext.refl _).drew)).mono ?_; rintro e w1 ⟨t9, B1, m1, d1, B2, m2, d2, rfl, hok9, hg9, hx9⟩; obtain ⟨A7, c7, w7, hrun, hz7, hin7⟩ := HIN5.out.appT hx9 hg9 (by have := HTL.out; omega); have c01 := cell_of ((hx9.block _ HIN5.out.lt).trans HIN5.out.s) (i := 3) (u := .slice Bt (k + 1) dt) rfl; have c02 := cell_of ((((Ext.refl w1).alloc (.cells #[.slice B1 m1 d1, .slice B2 m2 d2] 53)).block _ (lt_of_block ((hx9.block _ HIN5.out.lt).trans HIN5.out.s))).trans ((hx9.block _ HIN5.out.lt).trans HIN5.out.s)) (i := 3) (u := .slice Bt (k + 1) dt) rfl; have z3 := cell_of hz7 (i := 3) (u := .slice Bt (k + 1) dt) rfl; have y3 := frozen_of hz7 3; rw [HTL.out] at hrun hin7; have HIN7 := Lib.hid hin7; have HRUN := Lib.hid hrun; have HOK9 := Lib.hid hok9; clear hok9 hg9 hx9 hrun hin7 hz7; simp only [])
        | (refine gstep_append_run (s := .tmp 73) (x := .tmp 82) HRUN.out rfl rfl rfl rfl rfl ?_))
      all_goals
        go_wp2
        refine ⟨⟨k + 1, A5, A7, c5, c7, vers ++ [30 + 7 * (i : Int) - 3 * (k : Int)], texts ++ [t9], by omega, rfl, fun _ => rfl, ?_, ?_, fun t ht => ?_, HIN7.out⟩, by simp only [toM]; omega⟩
        · rw [HVE.out, List.range_succ, List.map_append]; rfl
        · rw [List.length_append, HTL.out]; rfl
        · rcases List.mem_append.1 ht with ht | ht
          · exact HTO.out t ht
          · simp only [List.mem_singleton] at ht; subst ht; exact HOK9.out
end Go.Proofs.YtdbnddmncbjobaaGreatDoor

/- The law's words and place: walked. -/
namespace Go.Proofs.YtdbnddmncbjobaaGreatDoor
open Go Go.RowKit

def WoR (n : Nat) (b : Nat) (s3 s4 : Value) : Prop := ∃ i s : Nat, i ≤ n ∧ s ≤ b + 1000 * i ∧ s3 = .int .i64 s ∧ s4 = .int .i64 i
set_option maxHeartbeats 4000000 in
set_option maxRecDepth 100000 in
theorem words_any (P : Nat → Prop) (w : World) (A A' : Option Addr) (n n' c c' : Nat) (t : Tx) (h1 : kWs.row w P A n t.paras) (h2 : kWs.row w P A' n' t.notes) (ht : OkT t) :
    Calls Tryz.prog 88 #[.agg #[.slice A n c, .slice A' n' c']] w (fun z w' => ∃ k : Nat, k ≤ 10000 ∧ z = .returned (.int .i64 k) ∧ Ext w w') := by
  have hn : n ≤ 4 := by have := Lay.row_len h1; have := ht.np; omega
  have hn' : n' ≤ 3 := by have := Lay.row_len h2; have := ht.nn; omega
  obtain ⟨w1, hw1⟩ : ∃ w1, w.alloc (.cells #[.slice A n c, .slice A' n' c'] 53) = w1 := ⟨_, rfl⟩
  have hx : Ext w w1 := by rw [← hw1]; exact (Ext.refl w).alloc _
  have hB : w1.heap[w.heap.size]? = some (.cells #[.slice A n c, .slice A' n' c'] 53 (0, 0)) := by rw [← hw1]; exact heap_alloc_new w _
  have b0 := cell_of hB (i := 0) (u := .slice A n c) rfl
  have b1 := cell_of hB (i := 1) (u := .slice A' n' c') rfl
  have HR1 := Lib.hid (Lay.row_ext h1 hx)
  have HR2 := Lib.hid (Lay.row_ext h2 hx)
  have HX := Lib.hid hx
  have HT := Lib.hid ht
  have HL1 := Lib.hid (Lay.row_len h1)
  have HL2 := Lib.hid (Lay.row_len h2)
  clear h1 h2 hx ht hB
  go_enter Tryz.func88, Tryz.ntmps88
  go_upto_region 1 with (fail)
  clear hw1
  go_wp2_with fail
  go_loop [3, 4] (fun s3 s4 => WoR n 0 s3 s4) (fun _ s4 => toM n s4)
  case atStart => exact ⟨0, 0, by omega, by omega, rfl, rfl⟩
  case round =>
    obtain ⟨i, s, hi, hs, rfl, rfl⟩ := hrel
    by_cases hlt : i < n
    case pos =>
      have hI : (i : Int) < (n : Int) := by omega
      obtain ⟨p, hp⟩ : ∃ p, t.paras[i]? = some p := ⟨_, List.getElem?_eq_getElem (by have := HL1.out; omega)⟩
      obtain ⟨bb, off, cs, rfl, hb0, _, hrep, hcell⟩ := Lay.row_at HR1.out hp
      obtain ⟨Ap, cp, rfl, hcp, hrp⟩ := kWs_rep.1 hrep
      have hce := hcell 0 _ rfl
      rw [kWs_sz, Nat.mul_one, Nat.add_zero] at hce
      have hpl := (HT.out.par.len p (List.mem_of_getElem? hp)).2
      obtain ⟨q, hq⟩ : ∃ q, p.length = q := ⟨_, rfl⟩
      rw [hq] at hce hpl
      clear hq hp hrep hrp hcell hcp
      go_wp2_with fail
      exact ⟨⟨i + 1, s + q, by omega, by omega, by simp, rfl⟩, by simp only [toM]; omega⟩
    have hni : ¬ (i : Int) < (n : Int) := by omega
    have hs4 : s ≤ 4000 := by omega
    clear hs
    go_wp2_with fail
    go_loop [3, 5] (fun s3 s5 => WoR n' 4000 s3 s5) (fun _ s5 => toM n' s5)
    case atStart => exact ⟨0, s, by omega, by omega, rfl, rfl⟩
    case round =>
      obtain ⟨j, s, hj, hs, rfl, rfl⟩ := hrel
      by_cases hlt2 : j < n'
      case pos =>
        have hI : (j : Int) < (n' : Int) := by omega
        obtain ⟨p, hp⟩ : ∃ p, t.notes[j]? = some p := ⟨_, List.getElem?_eq_getElem (by have := HL2.out; omega)⟩
        obtain ⟨bb, off, cs, rfl, hb0, _, hrep, hcell⟩ := Lay.row_at HR2.out hp
        obtain ⟨Ap, cp, rfl, hcp, hrp⟩ := kWs_rep.1 hrep
        have hce := hcell 0 _ rfl
        rw [kWs_sz, Nat.mul_one, Nat.add_zero] at hce
        have hpl := (HT.out.len p (List.mem_of_getElem? hp)).2
        obtain ⟨q, hq⟩ : ∃ q, p.length = q := ⟨_, rfl⟩
        rw [hq] at hce hpl
        clear hq hp hrep hrp hcell hcp
        go_wp2_with fail
        exact ⟨⟨j + 1, s + q, by omega, by omega, by simp, rfl⟩, by simp only [toM]; omega⟩
      have hnj : ¬ (j : Int) < (n' : Int) := by omega
      go_wp2_with fail
      go_ret
      exact ⟨s, by omega, rfl, HX.out⟩
def PcC (w1 : World) (ent : Int) (fz : Bool) (vV vT : Value) (s11 : Value) (wx : World) : Prop := ∃ z, s11 = .pointer (some ⟨z, 0, none⟩) ∧ wx.heap[z]? = some (.cells #[.int .i64 ent, .bool fz, vV, vT] 46 (0, 0)) ∧ Ext w1 wx
def PlaceGet (w : World) (z : Ending) (w' : World) : Prop := ∃ e x y : Int, z = .returned (.tuple #[.int .i64 e, .int .i64 x, .int .i64 y]) ∧ Ext w w'
set_option maxHeartbeats 4000000 in
set_option maxRecDepth 100000 in
theorem place_any (P : Nat → Prop) (w : World) (b : Bk) (a v wd : Int) (A : Option Addr) (N c : Nat) (hb : OkB b 100 100) (hr : kSe.row w P A N b.secs) (ha : -9223372036854775808 ≤ a ∧ a ≤ 9223372036854775807) (hv : -9223372036854775808 ≤ v ∧ v ≤ 9223372036854775807) (hw : -9223372036854775808 ≤ wd ∧ wd ≤ 9223372036854775807) :
    Calls Tryz.prog 40 #[.agg #[.int .i64 b.ms, .int .i64 b.ht, .slice A N c], .int .i64 a, .int .i64 v, .int .i64 wd] w (PlaceGet w) := by
  have hN : N ≤ 100 := by have := Lay.row_len hr; have := hb.n; omega
  have HA := Lib.hid (fun X (k : Int) (h1 : 1 ≤ k) (h2 : k ≤ 1000000000) => around_fn a k X ha.1 ha.2 h1 h2)
  have HV := Lib.hid (fun X (k : Int) (h1 : 1 ≤ k) (h2 : k ≤ 1000000000) => around_fn v k X hv.1 hv.2 h1 h2)
  have HW := Lib.hid (fun X (k : Int) (h1 : 1 ≤ k) (h2 : k ≤ 1000000000) => around_fn wd k X hw.1 hw.2 h1 h2)
  obtain ⟨w1, hw1⟩ : ∃ w1, w.alloc (.cells #[.int .i64 b.ms, .int .i64 b.ht, .slice A N c] 27) = w1 := ⟨_, rfl⟩
  have hx : Ext w w1 := by rw [← hw1]; exact (Ext.refl w).alloc _
  have hB : w1.heap[w.heap.size]? = some (.cells #[.int .i64 b.ms, .int .i64 b.ht, .slice A N c] 27 (0, 0)) := by rw [← hw1]; exact heap_alloc_new w _
  have b2 := cell_of hB (i := 2) (u := .slice A N c) rfl
  have hbl : w.heap.size < w1.heap.size := lt_of_block hB
  have HX := Lib.hid hx
  have HL := Lib.hid (Lay.row_len hr)
  have HR := Lib.hid (Lay.row_ext hr hx)
  have HB := Lib.hid hb
  clear hx hB hr hb ha hv hw
  go_enter Tryz.func40, Tryz.ntmps40
  go_upto_region 1 with (fail)
  clear hw1
  obtain ⟨a9, ha9, ha9b⟩ := around_nat a 9 (by omega)
  have HA9 := Lib.hid (show Calls Tryz.prog 42 #[.int .i64 a, .int .i64 9] w1 (fun e w' => e = .returned (.int .i64 (a9 : Int)) ∧ w1 = w') from by rw [← ha9]; exact HA.out w1 9 (by omega) (by omega))
  clear ha9
  by_cases h0 : N = 0
  · have g0 : ((N : Int) == 0) = true := by simp [h0]
    have H0 := Lib.hid h0
    clear h0
    go_wp2_with fail
    refine bodyPost_ret (v := .tuple #[.int .i64 a, .int .i64 v, .int .i64 wd]) (by simp [results, Tryz.results40, go_sem, *]) rfl ?_
    exact ⟨_, _, _, rfl, HX.out⟩
  have g0 : ((N : Int) == 0) = false := by simp; omega
  by_cases h9 : a9 = 0
  · have g9 : ((a9 : Int) == 0) = true := by simp [h9]
    have H9 := Lib.hid h9
    clear h9
    go_wp2_with (first | (go_at_call 42; refine (HA9.out).mono ?_; rintro e w2 ⟨rfl, rfl⟩))
    refine bodyPost_ret (v := .tuple #[.int .i64 a, .int .i64 v, .int .i64 wd]) (by simp [results, Tryz.results40, go_sem, *]) rfl ?_
    exact ⟨_, _, _, rfl, HX.out⟩
  have g9 : ((a9 : Int) == 0) = false := by simp; omega
  obtain ⟨i, hi, hib⟩ := around_nat a N (by omega)
  have HAN := Lib.hid (fun X => show Calls Tryz.prog 42 #[.int .i64 a, .int .i64 (N : Int)] X (fun e w' => e = .returned (.int .i64 (i : Int)) ∧ X = w') from by rw [← hi]; exact HA.out X N (by omega) (by omega))
  clear hi
  have hI : (i : Int) < (N : Int) := by omega
  obtain ⟨x, hxi⟩ : ∃ x, b.secs[i]? = some x := ⟨_, List.getElem?_eq_getElem (by have := HL.out; omega)⟩
  obtain ⟨bs, os, cs, rfl, hbs, _, hrep, hcs⟩ := Lay.row_at HR.out hxi
  obtain ⟨A1, n1, c1, A2, n2, c2, rfl, hn1, hn2, hr1, hr2⟩ := kSe_rep.1 hrep
  have e0 := hcs 0 _ rfl
  have e1 := hcs 1 _ rfl
  have e2 := hcs 2 _ rfl
  have e3 := hcs 3 _ rfl
  rw [kSe_sz] at e0 e1 e2 e3
  rw [Nat.add_zero] at e0
  have HXI := Lib.hid (List.mem_of_getElem? hxi)
  have HR1 := Lib.hid hr1
  have HR2 := Lib.hid hr2
  clear hrep hcs hr1 hr2 hxi
  go_upto_region 3 with (first | (go_at_call 42; refine (HA9.out).mono ?_; rintro e w2 ⟨rfl, rfl⟩))
  have hz1 := heap_alloc_new w1 (.cells #[.int .i64 x.ent, .bool x.fz, .slice A1 n1 c1, .slice A2 n2 c2] 46)
  have HZ1 := Lib.hid hz1
  have HXD := Lib.hid (show Ext w1 (w1.alloc (.cells #[.int .i64 x.ent, .bool x.fz, .slice A1 n1 c1, .slice A2 n2 c2] 46)).drew from ((Ext.refl w1).alloc _).drew)
  clear hz1
  go_cut [11] (fun s11 wx => PcC w1 x.ent x.fz (.slice A1 n1 c1) (.slice A2 n2 c2) s11 wx)
  case first =>
    go_region_law (first
      | (go_simp; go_at_call 42; refine (HAN.out _).mono ?_; rintro e w2 ⟨rfl, rfl⟩; simp only []))
    all_goals
      go_wp2
      go_meet
      case rel => exact ⟨w1.heap.size, rfl, HZ1.out, HXD.out⟩
  case rest =>
    obtain ⟨z, rfl, hz, hxz⟩ := hcut
    have hl := HB.out.vs x HXI.out
    have e9 := Lay.row_len HR1.out
    have e8 := Lay.row_len HR2.out
    obtain rfl : n1 = n2 := by omega
    have hn11 : 1 ≤ n1 := by
      have h9 := hl.2.1
      have : x.vers.length ≠ 0 := fun e => h9 (List.eq_nil_of_length_eq_zero e)
      omega
    have hn10 : n1 ≤ 100 := by omega
    have HZL := Lib.hid (lt_of_block hz)
    have y0 := cell_of hz (i := 0) (u := .int .i64 x.ent) rfl
    have y2 := cell_of hz (i := 2) (u := .slice A1 n1 c1) rfl
    have y3 := cell_of hz (i := 3) (u := .slice A2 n1 c2) rfl
    obtain ⟨k, hk, hkb⟩ := around_nat v n1 (by omega)
    have emx : max (1 : Int) (n1 : Int) = (n1 : Int) := by omega
    have HAV := Lib.hid (fun X => show Calls Tryz.prog 42 #[.int .i64 v, .int .i64 (n1 : Int)] X (fun e w' => e = .returned (.int .i64 (k : Int)) ∧ X = w') from by rw [← hk]; exact HV.out X n1 (by omega) (by omega))
    clear hk hl e9 e8
    have hk1 : ¬ (n1 : Int) ≤ (k : Int) := by omega
    have gk1 : decide ((n1 : Int) ≤ (k : Int)) = false := by rw [decide_eq_false_iff_not]; omega
    have gk3 : decide (n1 ≤ k) = false := by rw [decide_eq_false_iff_not]; omega
    have hK1 : (k : Int) < (n1 : Int) := by omega
    obtain ⟨vk, hvk⟩ : ∃ vk, x.vers[k]? = some vk := ⟨_, List.getElem?_eq_getElem (by have := Lay.row_len HR1.out; omega)⟩
    obtain ⟨tk, htk⟩ : ∃ tk, x.texts[k]? = some tk := ⟨_, List.getElem?_eq_getElem (by have := Lay.row_len HR2.out; omega)⟩
    obtain ⟨bv, ov, cv, rfl, hbv, _, hrv, hcv⟩ := Lay.row_at (Lay.row_ext HR1.out hxz) hvk
    obtain ⟨bt, ot, ct, rfl, hbt, _, hrt, hct⟩ := Lay.row_at (Lay.row_ext HR2.out hxz) htk
    obtain rfl : cv = [.int .i64 vk] := hrv
    obtain ⟨A3, n3, c3, A4, n4, c4, rfl, _, _, hr3, hr4⟩ := kTx_rep.1 hrt
    have v0 := hcv 0 _ rfl
    rw [show kInt.sz = 1 from rfl, Nat.mul_one, Nat.add_zero] at v0
    have t0 := hct 0 _ rfl
    have t1 := hct 1 _ rfl
    rw [kTx_sz] at t0 t1
    rw [Nat.add_zero] at t0
    have HWO := Lib.hid (fun X (hX : Ext wc X) => words_any P X A3 A4 n3 n4 c3 c4 tk (Lay.row_ext hr3 hX) (Lay.row_ext hr4 hX) (HB.out.tx x HXI.out tk (List.mem_of_getElem? htk)))
    have HQ := Lib.hid (fun X (hX : Ext wc X) => (show X.cell? ⟨z, 0, none⟩ = some (.int .i64 x.ent) ∧ X.cell? ⟨z, 2, none⟩ = some (.slice (some ⟨bv, ov, none⟩) n1 c1) ∧ X.cell? ⟨z, 3, none⟩ = some (.slice (some ⟨bt, ot, none⟩) n1 c2) ∧ X.cell? ⟨bv, ov + k, none⟩ = some (.int .i64 vk) ∧ X.cell? ⟨bt, ot + k * 2, none⟩ = some (.slice A3 n3 c3) ∧ X.cell? ⟨bt, ot + k * 2 + 1, none⟩ = some (.slice A4 n4 c4) from by
      obtain ⟨q, _⟩ := hX.cells
      exact ⟨(q _ _ HZL.out).trans y0, (q _ _ HZL.out).trans y2, (q _ _ HZL.out).trans y3, (q _ _ hbv).trans v0, (q _ _ hbt).trans t0, (q _ _ hbt).trans t1⟩))
    have HXZ := Lib.hid (HX.out.trans hxz)
    clear hvk htk hcv hct hrt hr3 hr4 hz hxz HR1 HR2
    go_upto_region 7 with (first | (go_at_call 42; refine (HAV.out _).mono ?_; rintro e w2 ⟨rfl, rfl⟩))
    have hcur : Ext wc wc.drew := (Ext.refl _).drew
    go_region_held3 (fun W => W.cell? ⟨z, 0, none⟩ = some (.int .i64 x.ent) ∧ W.cell? ⟨z, 2, none⟩ = some (.slice (some ⟨bv, ov, none⟩) n1 c1) ∧ W.cell? ⟨z, 3, none⟩ = some (.slice (some ⟨bt, ot, none⟩) n1 c2) ∧ W.cell? ⟨bv, ov + k, none⟩ = some (.int .i64 vk) ∧ W.cell? ⟨bt, ot + k * 2, none⟩ = some (.slice A3 n3 c3) ∧ W.cell? ⟨bt, ot + k * 2 + 1, none⟩ = some (.slice A4 n4 c4)) (exact HQ.out _ hcur) (first
      | (go_at_call 88; refine (HWO.out _ hcur).mono ?_; rintro e wG ⟨q, hq, rfl, hxG⟩; have hcur := hcur.trans hxG)
      | (go_at_call 42; refine (HW.out _ _ (by rw [IntWalk.i64_in _ (by omega)]; omega) (by rw [IntWalk.i64_in _ (by omega)]; omega)).mono ?_; rintro e wR ⟨rfl, rfl⟩))
    go_wp2_with fail
    refine bodyPost_ret (v := .tuple #[.int .i64 x.ent, .int .i64 vk, .int .i64 (arnd wd (IntKind.i64.wrap ((q : Int) + 2)))]) (by simp [results, Tryz.results40, go_sem, *]) rfl ?_
    exact ⟨_, _, _, rfl, HXZ.out.trans hcur⟩
end Go.Proofs.YtdbnddmncbjobaaGreatDoor

/- cite.Of with one shape of answer; what Freeze leaves. -/
namespace Go.Proofs.YtdbnddmncbjobaaGreatDoor
open Go Go.RowKit

def ofT (o : Option (Int × Int × Nat)) (br : Int) : Int × Int × Int × Int × Bool := match o with | none => (0, 0, 0, 0, false) | some (n, s, i) => (br, n, s, (i : Int), true)
def OfG (w : World) (b : Bk) (br e v wd : Int) (z : Ending) (w' : World) : Prop :=
  ∃ (c0 c1 c2 c3 : Int) (ok : Bool), ofT (ofP b br e v wd) br = (c0, c1, c2, c3, ok) ∧ z = .returned (.tuple #[.agg #[.int .i64 c0, .int .i64 c1, .int .i64 c2, .int .i64 c3], .bool ok]) ∧ Ext w w'
theorem of_gen (P : Nat → Prop) (w : World) (b : Bk) (br e v wd : Int) (A : Option Addr) (N c : Nat) (hb : BkI b) (hr : kSe.row w P A N b.secs) (hL : EnvW w) :
    Calls Tryz.prog 48 #[.agg #[.int .i64 b.ms, .int .i64 b.ht, .slice A N c], .int .i64 br, .int .i64 e, .int .i64 v, .int .i64 wd] w (OfG w b br e v wd) := by
  refine (of_any P w b br e v wd A N c hb hr hL).mono ?_
  rintro z w' ⟨hx, (⟨h1, rfl⟩ | ⟨n, s, i, h1, rfl⟩)⟩
  · exact ⟨0, 0, 0, 0, false, by rw [h1]; rfl, rfl, hx⟩
  · exact ⟨br, n, s, i, true, by rw [h1]; rfl, rfl, hx⟩
theorem OkB.big {b : Bk} {N V N' V' : Nat} (h : OkB b N V) (hN : N ≤ N') (hV : V ≤ V') : OkB b N' V' :=
  ⟨h.m0, h.m1, h.h0, h.h1, Nat.le_trans h.n hN, fun x hx => ⟨(h.vs x hx).1, (h.vs x hx).2.1, Nat.le_trans (h.vs x hx).2.2 hV⟩, h.tx, h.ent⟩
end Go.Proofs.YtdbnddmncbjobaaGreatDoor

/- What CiteLeads asks: plain. -/
namespace Go.Proofs.YtdbnddmncbjobaaGreatDoor
open Go Go.RowKit

theorem pagesT_all (R : List Ln → List Ln → Prop) (ent ver : Int) (first : Bool) : ∀ (ps : List (List Ln × List Ln)) (n s : Int), (∀ q ∈ ps, R q.1 q.2) → ∀ p ∈ (pagesT ent ver first ps n s).1, R p.body p.nts := by
  intro ps
  induction ps with
  | nil => intro n s _ p hp; simp [pagesT] at hp
  | cons a ps ih =>
    intro n s h p hp
    simp only [pagesT] at hp
    rcases List.mem_cons.1 hp with rfl | hp
    · exact h a (by simp)
    · exact ih _ _ (fun q hq => h q (by simp [hq])) p hp
theorem pagesV_all (R : List Ln → List Ln → Prop) (m h ent : Int) : ∀ (vs : List Int) (ts : List Tx) (f : Bool) (n s : Int), (∀ t ∈ ts, ∀ q ∈ (textP t m h).2, R q.1 q.2) → ∀ p ∈ (pagesV m h ent vs ts f n s).1, R p.body p.nts := by
  intro vs
  induction vs with
  | nil => intro ts f n s _ p hp; simp [pagesV] at hp
  | cons v vs ih =>
    intro ts f n s hk p hp
    cases ts with
    | nil => simp [pagesV] at hp
    | cons t ts =>
      simp only [pagesV] at hp
      rcases List.mem_append.1 hp with hp | hp
      · exact pagesT_all R _ _ _ _ _ _ (hk t (by simp)) p hp
      · exact ih ts _ _ _ (fun t ht => hk t (by simp [ht])) p hp
theorem pagesS_all (R : List Ln → List Ln → Prop) (m h : Int) : ∀ (l : List Se) (n : Int), (∀ x ∈ l, ∀ t ∈ x.texts, ∀ q ∈ (textP t m h).2, R q.1 q.2) → ∀ p ∈ pagesS m h l n, R p.body p.nts := by
  intro l
  induction l with
  | nil => intro n _ p hp; simp [pagesS] at hp
  | cons x l ih =>
    intro n hk p hp
    simp only [pagesS] at hp
    rcases List.mem_append.1 hp with hp | hp
    · exact pagesV_all R _ _ _ _ _ _ _ _ (hk x (by simp)) p hp
    · exact ih _ (fun y hy => hk y (by simp [hy])) p hp
theorem OkB.hgt {b : Bk} {N V : Nat} (h : OkB b N V) : ∀ p ∈ pagesB b, (p.body ++ p.nts).length ≤ 100 := by
  intro p hp
  have := pagesS_all (fun x y => x.length + y.length ≤ 100) b.ms b.ht b.secs 0 (fun x hx t ht q hq => by
    have h9 := (textP_ok (h.tx x hx t ht) h.m0 h.m1 h.h0 h.h1).2.2.2 q hq
    have := h.h1
    show q.1.length + q.2.length ≤ 100
    omega) p hp
  rw [List.length_append]
  exact this
/-- Where a word of a frozen book stands: the page, the line and the citation. -/
theorem leads_plain {b : Bk} (h : OkB b 4 3) (hf : ∀ x ∈ b.secs, x.fz = true) (br e v wd : Int) (h0 : 0 ≤ br) (h1 : br < 256) :
    (whereP b e v wd = none ∧ ofP b br e v wd = none) ∨
    ∃ (n s : Int) (i : Nat) (p : Pg) (x : Ln), whereP b e v wd = some (n, s, i) ∧ ofP b br e v wd = some (n, s, i) ∧ citP b n s i = some (p, x) ∧ p.ent = e ∧ p.ver = v ∧ x.fr ≤ wd ∧ wd < x.un ∧ i ≤ 100 ∧ citB ⟨br, n, s, i⟩ = true := by
  cases hw : whereP b e v wd with
  | none =>
    refine .inl ⟨rfl, ?_⟩
    unfold ofP
    split
    · rfl
    · exact hw
  | some a =>
    obtain ⟨n, s, i⟩ := a
    obtain ⟨p, hp, hg, rfl, rfl, g1, g2, g3, g4, g5, g6, x, g7, g8, g9⟩ := where_page h.pgs hw
    have hi := h.hgt p hp
    have hn := h.n
    obtain ⟨y, hy, he, _⟩ := pagesS_mem b.ms b.ht b.secs 0 p hp
    have hz : frzIn b p.ent = true := by
      unfold frzIn
      rw [List.any_eq_true]
      exact ⟨y, hy, by rw [he, hf y hy]; simp⟩
    refine .inr ⟨n, s, i, p, x, rfl, ?_, ?_, rfl, rfl, g8, g9, by omega, ?_⟩
    · unfold ofP
      rw [if_neg (by rw [hz]; simp; omega)]
      exact hw
    · unfold citP
      rw [hg]
      show (if (i : Int) < 1 then none else _) = _
      rw [if_neg (by omega), show ((i : Int) - 1).toNat = i - 1 by omega, g7]
      rfl
    · apply citB_yes <;> simp only [labB] <;> (try simp only [Bool.and_eq_true, decide_eq_true_eq]) <;> omega
theorem frzP_all (b : Bk) : ∀ x ∈ (frzP b).secs, x.fz = true := by
  intro x hx
  obtain ⟨y, _, rfl⟩ := List.mem_map.1 hx
  rfl
end Go.Proofs.YtdbnddmncbjobaaGreatDoor

/- The law CiteFrozen: walked. -/
namespace Go.Proofs.YtdbnddmncbjobaaGreatDoor
open Go Go.RowKit

end Go.Proofs.YtdbnddmncbjobaaGreatDoor

/- Boxes of four cells; the world in which cite.Parse calls its closures. -/
namespace Go.Proofs.YtdbnddmncbjobaaGreatDoor
open Go Go.RowKit

/-- A box of four numbers, not frozen. -/
structure Box (W : World) (b : Nat) (v0 v1 v2 v3 : Int) : Prop where
  lt : b < W.heap.size
  c0 : W.cell? ⟨b, 0, none⟩ = some (.int .i64 v0)
  c1 : W.cell? ⟨b, 1, none⟩ = some (.int .i64 v1)
  c2 : W.cell? ⟨b, 2, none⟩ = some (.int .i64 v2)
  c3 : W.cell? ⟨b, 3, none⟩ = some (.int .i64 v3)
  f0 : W.frozen? ⟨b, 0, none⟩ = false
  f1 : W.frozen? ⟨b, 1, none⟩ = false
  f2 : W.frozen? ⟨b, 2, none⟩ = false
  f3 : W.frozen? ⟨b, 3, none⟩ = false
theorem Box.keep {w W W' : World} {b : Nat} {v0 v1 v2 v3 : Int} (h : Box W b v0 v1 v2 v3) (k : Keep w W W') (h1 : b ≠ w.heap.size + 1) (h2 : b ≠ w.heap.size + 2) : Box W' b v0 v1 v2 v3 :=
  ⟨Nat.lt_of_lt_of_le h.lt k.size, by rw [k.cell _ _ h1 h2 h.lt]; exact h.c0, by rw [k.cell _ _ h1 h2 h.lt]; exact h.c1, by rw [k.cell _ _ h1 h2 h.lt]; exact h.c2, by rw [k.cell _ _ h1 h2 h.lt]; exact h.c3,
    by rw [k.frozen _ _ h1 h2 h.lt]; exact h.f0, by rw [k.frozen _ _ h1 h2 h.lt]; exact h.f1, by rw [k.frozen _ _ h1 h2 h.lt]; exact h.f2, by rw [k.frozen _ _ h1 h2 h.lt]; exact h.f3⟩
theorem Box.ext {W W' : World} {b : Nat} {v0 v1 v2 v3 : Int} (h : Box W b v0 v1 v2 v3) (hx : Ext W W') : Box W' b v0 v1 v2 v3 := by
  obtain ⟨q, p⟩ := hx.cells
  exact ⟨Nat.lt_of_lt_of_le h.lt hx.lt, by rw [q _ _ h.lt]; exact h.c0, by rw [q _ _ h.lt]; exact h.c1, by rw [q _ _ h.lt]; exact h.c2, by rw [q _ _ h.lt]; exact h.c3,
    by rw [p _ _ h.lt]; exact h.f0, by rw [p _ _ h.lt]; exact h.f1, by rw [p _ _ h.lt]; exact h.f2, by rw [p _ _ h.lt]; exact h.f3⟩
theorem Box.new (W : World) (v0 v1 v2 v3 : Int) (t : TypeId) : Box (W.alloc (.cells #[.int .i64 v0, .int .i64 v1, .int .i64 v2, .int .i64 v3] t)) W.heap.size v0 v1 v2 v3 :=
  ⟨by simp, by go_simp, by go_simp, by go_simp, by go_simp, by go_simp, by go_simp, by go_simp, by go_simp⟩
theorem Box.other {W : World} {b : Nat} {v0 v1 v2 v3 : Int} (h : Box W b v0 v1 v2 v3) {b' o : Nat} (hne : b' ≠ b) (u : Value) : Box (W.setCell ⟨b', o, none⟩ u) b v0 v1 v2 v3 := by
  have e : ∀ i, (W.setCell ⟨b', o, none⟩ u).cell? ⟨b, i, none⟩ = W.cell? ⟨b, i, none⟩ := fun i => World.cell?_setCell_other _ _ _ _ (by intro e; injection e with e1; exact hne e1)
  have f : ∀ i, (W.setCell ⟨b', o, none⟩ u).frozen? ⟨b, i, none⟩ = W.frozen? ⟨b, i, none⟩ := fun i => by rw [World.frozen?_setCell]
  exact ⟨by simpa using h.lt, by rw [e]; exact h.c0, by rw [e]; exact h.c1, by rw [e]; exact h.c2, by rw [e]; exact h.c3, by rw [f]; exact h.f0, by rw [f]; exact h.f1, by rw [f]; exact h.f2, by rw [f]; exact h.f3⟩
theorem Box.set0 {W : World} {b : Nat} {v0 v1 v2 v3 : Int} (h : Box W b v0 v1 v2 v3) (u : Int) : Box (W.setCell ⟨b, 0, none⟩ (.int .i64 u)) b u v1 v2 v3 := by
  have e : ∀ i, i ≠ 0 → (W.setCell ⟨b, 0, none⟩ (.int .i64 u)).cell? ⟨b, i, none⟩ = W.cell? ⟨b, i, none⟩ := fun i hi => World.cell?_setCell_other _ _ _ _ (by intro e; injection e with e1 e2; exact hi e2.symm)
  have f : ∀ i, (W.setCell ⟨b, 0, none⟩ (.int .i64 u)).frozen? ⟨b, i, none⟩ = W.frozen? ⟨b, i, none⟩ := fun i => by rw [World.frozen?_setCell]
  exact ⟨by simpa using h.lt, World.cell?_setCell_same _ _ _ h.c0, by rw [e _ (by omega)]; exact h.c1, by rw [e _ (by omega)]; exact h.c2, by rw [e _ (by omega)]; exact h.c3, by rw [f]; exact h.f0, by rw [f]; exact h.f1, by rw [f]; exact h.f2, by rw [f]; exact h.f3⟩
theorem Box.set1 {W : World} {b : Nat} {v0 v1 v2 v3 : Int} (h : Box W b v0 v1 v2 v3) (u : Int) : Box (W.setCell ⟨b, 1, none⟩ (.int .i64 u)) b v0 u v2 v3 := by
  have e : ∀ i, i ≠ 1 → (W.setCell ⟨b, 1, none⟩ (.int .i64 u)).cell? ⟨b, i, none⟩ = W.cell? ⟨b, i, none⟩ := fun i hi => World.cell?_setCell_other _ _ _ _ (by intro e; injection e with e1 e2; exact hi e2.symm)
  have f : ∀ i, (W.setCell ⟨b, 1, none⟩ (.int .i64 u)).frozen? ⟨b, i, none⟩ = W.frozen? ⟨b, i, none⟩ := fun i => by rw [World.frozen?_setCell]
  exact ⟨by simpa using h.lt, by rw [e _ (by omega)]; exact h.c0, World.cell?_setCell_same _ _ _ h.c1, by rw [e _ (by omega)]; exact h.c2, by rw [e _ (by omega)]; exact h.c3, by rw [f]; exact h.f0, by rw [f]; exact h.f1, by rw [f]; exact h.f2, by rw [f]; exact h.f3⟩
theorem Box.set2 {W : World} {b : Nat} {v0 v1 v2 v3 : Int} (h : Box W b v0 v1 v2 v3) (u : Int) : Box (W.setCell ⟨b, 2, none⟩ (.int .i64 u)) b v0 v1 u v3 := by
  have e : ∀ i, i ≠ 2 → (W.setCell ⟨b, 2, none⟩ (.int .i64 u)).cell? ⟨b, i, none⟩ = W.cell? ⟨b, i, none⟩ := fun i hi => World.cell?_setCell_other _ _ _ _ (by intro e; injection e with e1 e2; exact hi e2.symm)
  have f : ∀ i, (W.setCell ⟨b, 2, none⟩ (.int .i64 u)).frozen? ⟨b, i, none⟩ = W.frozen? ⟨b, i, none⟩ := fun i => by rw [World.frozen?_setCell]
  exact ⟨by simpa using h.lt, by rw [e _ (by omega)]; exact h.c0, by rw [e _ (by omega)]; exact h.c1, World.cell?_setCell_same _ _ _ h.c2, by rw [e _ (by omega)]; exact h.c3, by rw [f]; exact h.f0, by rw [f]; exact h.f1, by rw [f]; exact h.f2, by rw [f]; exact h.f3⟩
theorem Box.set3 {W : World} {b : Nat} {v0 v1 v2 v3 : Int} (h : Box W b v0 v1 v2 v3) (u : Int) : Box (W.setCell ⟨b, 3, none⟩ (.int .i64 u)) b v0 v1 v2 u := by
  have e : ∀ i, i ≠ 3 → (W.setCell ⟨b, 3, none⟩ (.int .i64 u)).cell? ⟨b, i, none⟩ = W.cell? ⟨b, i, none⟩ := fun i hi => World.cell?_setCell_other _ _ _ _ (by intro e; injection e with e1 e2; exact hi e2.symm)
  have f : ∀ i, (W.setCell ⟨b, 3, none⟩ (.int .i64 u)).frozen? ⟨b, i, none⟩ = W.frozen? ⟨b, i, none⟩ := fun i => by rw [World.frozen?_setCell]
  exact ⟨by simpa using h.lt, by rw [e _ (by omega)]; exact h.c0, by rw [e _ (by omega)]; exact h.c1, by rw [e _ (by omega)]; exact h.c2, World.cell?_setCell_same _ _ _ h.c3, by rw [f]; exact h.f0, by rw [f]; exact h.f1, by rw [f]; exact h.f2, by rw [f]; exact h.f3⟩
theorem Box.store {W : World} {b : Nat} {v0 v1 v2 v3 : Int} (h : Box W b v0 v1 v2 v3) (u0 u1 u2 u3 : Int) :
    Box ((((W.setCell ⟨b, 0, none⟩ (.int .i64 u0)).setCell ⟨b, 1, none⟩ (.int .i64 u1)).setCell ⟨b, 2, none⟩ (.int .i64 u2)).setCell ⟨b, 3, none⟩ (.int .i64 u3)) b u0 u1 u2 u3 :=
  (((h.set0 u0).set1 u1).set2 u2).set3 u3
theorem PSt.other {w W : World} {r : ByteArray} {k : Bool} (h : PSt w W r k) {b o : Nat} (h0 : w.heap.size ≤ b) (h1 : b ≠ w.heap.size + 1) (h2 : b ≠ w.heap.size + 2) (u : Value) : PSt w (W.setCell ⟨b, o, none⟩ u) r k :=
  ⟨h.ext.setCell h0 _, by simpa using h.size, by rw [World.cell?_setCell_other _ _ _ _ (by intro e; injection e with e1; exact h1 e1)]; exact h.rest,
    by rw [World.cell?_setCell_other _ _ _ _ (by intro e; injection e with e1; exact h2 e1)]; exact h.ok, by rw [World.frozen?_setCell]; exact h.frest, by rw [World.frozen?_setCell]; exact h.fok⟩
/-- The world in which the first closure is called. -/
def start (w : World) (s : ByteArray) : World := ((w.alloc (.cells #[.int .i64 0, .int .i64 0, .int .i64 0, .int .i64 0] 69)).alloc (.cells #[.string s] 9)).alloc (.cells #[.bool true] 4)
theorem pst_start (w : World) (s : ByteArray) : PSt w (start w s) s true ∧ Box (start w s) w.heap.size 0 0 0 0 := by
  unfold start
  refine ⟨⟨(((Ext.refl w).alloc _).alloc _).alloc _, by simp, by go_simp, by go_simp, by go_simp, by go_simp⟩, ?_⟩
  exact ((Box.new w 0 0 0 0 69).ext ((Ext.refl _).alloc _)).ext ((Ext.refl _).alloc _)
end Go.Proofs.YtdbnddmncbjobaaGreatDoor

/- The contract of cite.Parse. -/
namespace Go.Proofs.YtdbnddmncbjobaaGreatDoor
open Go Go.RowKit

def CPost (r : Ct × Int) (w : World) (e : Ending) (w' : World) : Prop := e = .returned (.tuple #[r.1.val, .int .i64 r.2]) ∧ Ext w w'
/-- Behind the literal: the citation's box, the two numbers, what the variables hold. -/
def LitRel (w : World) (r : ByteArray) (k : Bool) (bs xs : List UInt8) (s10 : Value) (wx : World) : Prop :=
  ∃ (b : Nat) (v x : Int), s10 = .pointer (some ⟨b, 0, none⟩) ∧ w.heap.size + 3 ≤ b ∧ Box wx b v 0 0 x ∧ Box wx w.heap.size 0 0 0 0 ∧ PSt w wx r (k && (numP bs).isSome && (numP xs).isSome) ∧ (∀ n, numP bs = some n → v = n) ∧ (∀ n, numP xs = some n → x = n)
theorem cut_len {l a b : List UInt8} {f : Bool} (h : Lib.cut l [47] = (a, b, f)) : a.length ≤ l.length ∧ b.length ≤ l.length := by
  unfold Lib.cut at h
  split at h
  · injection h with h1 h2
    injection h2 with h2 h3
    subst h1 h2
    simp; omega
  · injection h with h1 h2
    injection h2 with h2 h3
    subst h1 h2
    simp
set_option maxHeartbeats 4000000 in
set_option maxRecDepth 100000 in
theorem cparse_any (s : ByteArray) (w : World) (hs : s.size ≤ 281474976710656) (hE : Env w) : Calls Tryz.prog 49 #[.string s] w (CPost (parseP s.data.toList) w) := by
  obtain ⟨b, r, f, hc1⟩ : ∃ b r f, Lib.cut s.data.toList [47] = (b, r, f) := ⟨_, _, _, rfl⟩
  obtain ⟨m, x, g, hc2⟩ : ∃ m x g, Lib.cut r [47] = (m, x, g) := ⟨_, _, _, rfl⟩
  have hpc := parse_cuts s.data.toList b r m x f g hc1 hc2
  have HPC := Lib.hid hpc
  have HS := Lib.hid (pst_start w s)
  have hlen : b.length ≤ 281474976710656 ∧ r.length ≤ 281474976710656 ∧ m.length ≤ 281474976710656 ∧ x.length ≤ 281474976710656 := by
    have h1 := cut_len hc1
    have h2 := cut_len hc2
    have h3 : s.data.toList.length = s.size := by simp
    omega
  obtain ⟨B, hB⟩ : ∃ B : ByteArray, B = ⟨b.toArray⟩ := ⟨_, rfl⟩
  obtain ⟨R, hR⟩ : ∃ B : ByteArray, B = ⟨r.toArray⟩ := ⟨_, rfl⟩
  obtain ⟨M, hM⟩ : ∃ B : ByteArray, B = ⟨m.toArray⟩ := ⟨_, rfl⟩
  obtain ⟨X, hX⟩ : ∃ B : ByteArray, B = ⟨x.toArray⟩ := ⟨_, rfl⟩
  have HP1 := Lib.hid (fun (W : World) (hW : PSt w W s true) => (show Calls Tryz.prog 98 #[.pointer (some ⟨w.heap.size + 1, 0, none⟩), .pointer (some ⟨w.heap.size + 2, 0, none⟩)] W (fun e W' => e = .returned (.string B) ∧ PSt w W' R (true && f) ∧ Keep w W W') from hB ▸ hR ▸ part_any w W s true b r f hs hc1 hW))
  have HP2 := Lib.hid (fun (W : World) (hW : PSt w W R (true && f)) => (show Calls Tryz.prog 98 #[.pointer (some ⟨w.heap.size + 1, 0, none⟩), .pointer (some ⟨w.heap.size + 2, 0, none⟩)] W (fun e W' => e = .returned (.string M) ∧ PSt w W' X (true && f && g) ∧ Keep w W W') from hM ▸ hX ▸ part_any w W R (true && f) m x g (by rw [hR]; exact hlen.2.1) (by rw [hR]; exact hc2) hW))
  have HN1 := Lib.hid (fun (W : World) (k : Bool) (hW : PSt w W X k) (hEW : Ext w W) => (show Calls Tryz.prog 100 #[.string B, .pointer (some ⟨w.heap.size + 2, 0, none⟩)] W (NumPost w W b X k) from by have := num_any w W B X k (by rw [hB]; exact hlen.1) (hE.ext hEW) hW; rw [hB] at this ⊢; exact this))
  have HN2 := Lib.hid (fun (W : World) (k : Bool) (hW : PSt w W X k) (hEW : Ext w W) => (show Calls Tryz.prog 100 #[.string X, .pointer (some ⟨w.heap.size + 2, 0, none⟩)] W (NumPost w W x X k) from by have := num_any w W X X k (by rw [hX]; exact hlen.2.2.2) (hE.ext hEW) hW; rw [hX] at this ⊢; exact this))
  have HL := Lib.hid (fun (W : World) => (show Calls Tryz.prog 103 #[.string M] W (LPost (labR (labP m)) W) from by have := labp_any M W (by rw [hM]; exact hlen.2.2.1); rw [hM] at this ⊢; exact this))
  clear hB hR hM hX hc1 hc2 hpc hlen hE
  go_enter Tryz.func49, Tryz.ntmps49
  go_upto_region 5 with (first
    | (go_at_call 98; refine (HP1.out _ HS.out.1).mono ?_; rintro e w1 ⟨rfl, hS1, hK1⟩)
    | (go_at_call 98; refine (HP2.out _ hS1).mono ?_; rintro e w2 ⟨rfl, hS2, hK2⟩))
  have hb2 : Box w2 w.heap.size 0 0 0 0 := (HS.out.2.keep (hK1.trans hK2) (by omega) (by omega))
  have hsz := hS2.size
  have hx2 := hS2.ext
  go_cut [10] (fun s10 wx => LitRel w X (true && f && g) b x s10 wx)
  case first =>
    have hr2 := hS2.rest
    have hr2a : ∀ o, (w2.alloc o).cell? ⟨w.heap.size + 1, 0, none⟩ = some (.string X) := fun o => (World.cell?_alloc_lt _ _ _ (by show w.heap.size + 1 < w2.heap.size; omega)).trans hr2
    go_region_with (first
      | (have hg := hS3; clear hg; go_at_call 100; refine (HN2.out _ _ (hS3.mono ?_) ?_).mono ?_; (first | exact Ext.refl _ | exact (Ext.refl _).alloc _); (first | exact hS3.ext | exact hS3.ext.alloc _); rintro e w4 ⟨x', rfl, hS4, hK4, hx'⟩; have hsz4 := hS4.size; (first | (have hbr4 := hbr3.keep hK4 (by omega) (by omega)) | (have hbr4 := (hbr3.ext ((Ext.refl _).alloc _)).keep hK4 (by omega) (by omega))); (first | (have hb4 := hb3.keep hK4 (by omega) (by omega); have HB4 := Lib.hid hb4; obtain ⟨a9, a0, a1, a2, a3, g0, g1, g2, g3⟩ := hb4) | (have hb4 := (Box.new w3 0 0 0 0 69).keep hK4 (by omega) (by omega); have HB4 := Lib.hid hb4; obtain ⟨a9, a0, a1, a2, a3, g0, g1, g2, g3⟩ := hb4) | skip))
      | (go_at_call 100; refine (HN1.out _ _ (hS2.mono ?_) ?_).mono ?_; (first | exact (Ext.refl _).drew | exact ((Ext.refl _).alloc _).drew); (first | exact hx2.drew | exact (hx2.alloc _).drew); rintro e w3 ⟨v', rfl, hS3, hK3, hv'⟩; have hsz3 := hS3.size; (first | (have hbr3 := (hb2.ext (Ext.refl _).drew).keep hK3 (by omega) (by omega)) | (have hbr3 := (hb2.ext ((Ext.refl _).alloc _).drew).keep hK3 (by omega) (by omega))); have hr3 := hS3.rest; have hr3a : ∀ o, (w3.alloc o).cell? ⟨w.heap.size + 1, 0, none⟩ = some (.string X) := fun o => (World.cell?_alloc_lt _ _ _ (by show w.heap.size + 1 < w3.heap.size; omega)).trans hr3; (try have hb3 := ((Box.new w2 0 0 0 0 69).ext ((Ext.refl _).drew)).keep hK3 (by omega) (by omega))))
    all_goals
      go_wp2_with fail
      go_meet
      case rel =>
        first
        | exact ⟨_, _, _, rfl, by omega, Box.new _ _ _ _ _ _, hbr4.ext ((Ext.refl _).alloc _), hS4.mono ((Ext.refl _).alloc _), hv', hx'⟩
        | (refine ⟨_, _, _, rfl, ?_, HB4.out.store _ _ _ _, ?_, ?_, hv', hx'⟩
           · omega
           · iterate 4 (refine Box.other ?_ (by omega) _)
             exact hbr4
           · iterate 4 (refine PSt.other ?_ (by omega) (by omega) (by omega) _)
             exact hS4)
  case rest =>
    obtain ⟨b0, v, x', rfl, hbn, hbox, hres, hS, hv, hx'⟩ := hcut
    have hxc := hS.ext
    have hszc := hS.size
    clear HP1 HP2 HN1 HN2 hS1 hS2 hK1 hK2 hb2
    have HV := Lib.hid hv
    have HX := Lib.hid hx'
    clear hv hx'
    cases hK : (true && f && g && (numP b).isSome && (numP x).isSome) with
    | false =>
      rw [hK] at hS
      have hno : parseP s.data.toList = (ct0, 7) := by
        rw [HPC.out]
        split
        · rename_i hfg
          rw [hfg.1, hfg.2] at hK
          cases hb : numP b with
          | none => exact read3_b hb
          | some nb =>
            cases hx : numP x with
            | none => exact read3_x hx
            | some nx => rw [hb, hx] at hK; simp at hK
        · rfl
      have HNO := Lib.hid hno
      have hok := hS.ok
      obtain ⟨e9, e0, e1, e2, e3, k0, k1, k2, k3⟩ := hres
      clear hK hno HPC HL
      go_wp2_with fail
      refine bodyPost_ret (v := .tuple #[.agg #[.int .i64 0, .int .i64 0, .int .i64 0, .int .i64 0], .int .i64 7]) (by simp [results, Tryz.results49, go_sem, *]) rfl ?_
      exact ⟨by rw [HNO.out]; rfl, by repeat (first | exact hxc | refine Ext.setCell ?_ (Nat.le_refl _) _)⟩
    | true =>
      rw [hK] at hS
      simp only [Bool.true_and, Bool.and_eq_true] at hK
      obtain ⟨⟨⟨hf, hg⟩, hb⟩, hx⟩ := hK
      obtain ⟨nb, hb⟩ := Option.isSome_iff_exists.1 hb
      obtain ⟨nx, hx⟩ := Option.isSome_iff_exists.1 hx
      have hP : parseP s.data.toList = read3 b m x := by rw [HPC.out, hf, hg]; simp
      obtain rfl := HV.out nb hb
      obtain rfl := HX.out nx hx
      have hok := hS.ok
      have HLx : ∀ (n0 s0 e0 : Int), labR (labP m) = (n0, s0, e0) → ∀ W, Calls Tryz.prog 103 #[.string M] W (fun e W' => e = .returned (.tuple #[.agg #[.int .i64 n0, .int .i64 s0], .int .i64 e0]) ∧ Ext W W') := fun n0 s0 e0 h W => by
        have := HL.out W; rw [h] at this; exact this
      clear HPC HL HV HX hS
      cases hm : labP m with
      | none =>
        have HF := Lib.hid (show parseP s.data.toList = (ct0, 7) by rw [hP, read3_m hm])
        have HC := Lib.hid (HLx 0 0 7 (by rw [hm]; rfl))
        clear hP hm HLx hb hx hf hg
        go_wp2_with (first | (go_at_call 103; refine (HC.out _).mono ?_; rintro e w5 ⟨rfl, hx5⟩; obtain ⟨e9, e0, e1, e2, e3, k0, k1, k2, k3⟩ := hres.ext hx5))
        refine bodyPost_ret (v := .tuple #[.agg #[.int .i64 0, .int .i64 0, .int .i64 0, .int .i64 0], .int .i64 7]) (by simp [results, Tryz.results49, go_sem, *]) rfl ?_
        exact ⟨by rw [HF.out]; rfl, by repeat (first | exact hxc.trans hx5 | refine Ext.alloc ?_ _ | refine Ext.setCell ?_ (Nat.le_refl _) _)⟩
      | some ns =>
        obtain ⟨n, su⟩ := ns
        have hR := read3_ok hb hx hm
        cases hlb : labB n su with
        | false =>
          have HF := Lib.hid (show parseP s.data.toList = (ct0, 5) by
            rw [hP, hR, if_neg]
            rw [citB_no (.inr (.inr (.inr (.inr hlb))))]; simp)
          have HC := Lib.hid (HLx 0 0 5 (by rw [hm]; unfold labR; simp only [hlb]; rfl))
          clear hP hm HLx hb hx hf hg hR hlb
          go_wp2_with (first | (go_at_call 103; refine (HC.out _).mono ?_; rintro e w5 ⟨rfl, hx5⟩; obtain ⟨e9, e0, e1, e2, e3, k0, k1, k2, k3⟩ := hres.ext hx5))
          refine bodyPost_ret (v := .tuple #[.agg #[.int .i64 0, .int .i64 0, .int .i64 0, .int .i64 0], .int .i64 5]) (by simp [results, Tryz.results49, go_sem, *]) rfl ?_
          exact ⟨by rw [HF.out]; rfl, by repeat (first | exact hxc.trans hx5 | refine Ext.alloc ?_ _ | refine Ext.setCell ?_ (Nat.le_refl _) _)⟩
        | true =>
          have HC := Lib.hid (HLx n su 0 (by rw [hm]; unfold labR; simp only [hlb]; rfl))
          have hd1 : b0 ≠ w.heap.size := by omega
          cases hcb : citB (mkCt nb n su nx) with
          | false =>
            have HF := Lib.hid (show parseP s.data.toList = (ct0, 5) by rw [hP, hR, hcb]; rfl)
            have HVa := Lib.hid (fun W => (show Calls Tryz.prog 104 #[.agg #[.int .i64 nb, .int .i64 n, .int .i64 su, .int .i64 nx]] W (BoolPost false W) from hcb ▸ valid_any (mkCt nb n su nx) W))
            clear hP hm HLx hb hx hf hg hR hlb hcb
            go_wp2_with (first | (go_at_call 103; refine (HC.out _).mono ?_; rintro e w5 ⟨rfl, hx5⟩; obtain ⟨e9, e0, e1, e2, e3, k0, k1, k2, k3⟩ := hres.ext hx5; obtain ⟨d9, d0, d1, d2, d3, l0, l1, l2, l3⟩ := hbox.ext hx5) | (go_at_call 104; refine (HVa.out _).mono ?_; rintro e w6 ⟨rfl, hx6⟩; (first | (have hc6 := ((((hbox.ext hx5).set1 n).set2 su).ext ((Ext.refl _).alloc _)).ext hx6; have hr6 := ((((hres.ext hx5).other hd1 _).other hd1 _).ext ((Ext.refl _).alloc _)).ext hx6) | (have hc6 := ((((hbox.ext hx5).ext ((Ext.refl _).alloc _)).set1 n).set2 su).ext hx6; have hr6 := ((((hres.ext hx5).ext ((Ext.refl _).alloc _)).other hd1 _).other hd1 _).ext hx6)); have HX6 := Lib.hid hx6; clear hx6; obtain ⟨p9, p0, p1, p2, p3, q0, q1, q2, q3⟩ := hc6; obtain ⟨r9, r0, r1, r2, r3, t0, t1, t2, t3⟩ := hr6))
            refine bodyPost_ret (v := .tuple #[.agg #[.int .i64 0, .int .i64 0, .int .i64 0, .int .i64 0], .int .i64 5]) (by simp [results, Tryz.results49, go_sem, *]) rfl ?_
            exact ⟨by rw [HF.out]; rfl, by
              iterate 4 (refine Ext.setCell ?_ (Nat.le_refl _) _)
              refine Ext.trans ?_ HX6.out
              repeat (first | exact hxc.trans hx5 | refine Ext.alloc ?_ _ | refine Ext.setCell ?_ (by show w.heap.size ≤ b0; omega) _)⟩
          | true =>
            have HF := Lib.hid (show parseP s.data.toList = (mkCt nb n su nx, 0) by rw [hP, hR, hcb]; rfl)
            have HVa := Lib.hid (fun W => (show Calls Tryz.prog 104 #[.agg #[.int .i64 nb, .int .i64 n, .int .i64 su, .int .i64 nx]] W (BoolPost true W) from hcb ▸ valid_any (mkCt nb n su nx) W))
            clear hP hm HLx hb hx hf hg hR hlb hcb
            go_wp2_with (first | (go_at_call 103; refine (HC.out _).mono ?_; rintro e w5 ⟨rfl, hx5⟩; obtain ⟨e9, e0, e1, e2, e3, k0, k1, k2, k3⟩ := hres.ext hx5; obtain ⟨d9, d0, d1, d2, d3, l0, l1, l2, l3⟩ := hbox.ext hx5) | (go_at_call 104; refine (HVa.out _).mono ?_; rintro e w6 ⟨rfl, hx6⟩; (first | (have hc6 := ((((hbox.ext hx5).set1 n).set2 su).ext ((Ext.refl _).alloc _)).ext hx6; have hr6 := ((((hres.ext hx5).other hd1 _).other hd1 _).ext ((Ext.refl _).alloc _)).ext hx6) | (have hc6 := ((((hbox.ext hx5).ext ((Ext.refl _).alloc _)).set1 n).set2 su).ext hx6; have hr6 := ((((hres.ext hx5).ext ((Ext.refl _).alloc _)).other hd1 _).other hd1 _).ext hx6)); have HX6 := Lib.hid hx6; clear hx6; obtain ⟨p9, p0, p1, p2, p3, q0, q1, q2, q3⟩ := hc6; obtain ⟨r9, r0, r1, r2, r3, t0, t1, t2, t3⟩ := hr6))
            refine bodyPost_ret (v := .tuple #[.agg #[.int .i64 nb, .int .i64 n, .int .i64 su, .int .i64 nx], .int .i64 0]) (by simp [results, Tryz.results49, go_sem, *]) rfl ?_
            exact ⟨by rw [HF.out]; rfl, by
              iterate 4 (refine Ext.setCell ?_ (Nat.le_refl _) _)
              refine Ext.trans ?_ HX6.out
              repeat (first | exact hxc.trans hx5 | refine Ext.alloc ?_ _ | refine Ext.setCell ?_ (by show w.heap.size ≤ b0; omega) _)⟩
end Go.Proofs.YtdbnddmncbjobaaGreatDoor

/- The law CiteLeads: walked. -/
namespace Go.Proofs.YtdbnddmncbjobaaGreatDoor
open Go Go.RowKit

theorem of_no {w w' : World} {b : Bk} {br e v wd : Int} {z : Ending} (h : ofP b br e v wd = none) (g : OfG w b br e v wd z w') :
    z = .returned (.tuple #[.agg #[.int .i64 0, .int .i64 0, .int .i64 0, .int .i64 0], .bool false]) ∧ Ext w w' := by
  obtain ⟨c0, c1, c2, c3, ok, h1, rfl, hx⟩ := g
  rw [h] at h1
  simp only [ofT, Prod.mk.injEq] at h1
  obtain ⟨rfl, rfl, rfl, rfl, rfl⟩ := h1
  exact ⟨rfl, hx⟩
theorem of_yes {w w' : World} {b : Bk} {br e v wd n s : Int} {i : Nat} {z : Ending} (h : ofP b br e v wd = some (n, s, i)) (g : OfG w b br e v wd z w') :
    z = .returned (.tuple #[.agg #[.int .i64 br, .int .i64 n, .int .i64 s, .int .i64 i], .bool true]) ∧ Ext w w' := by
  obtain ⟨c0, c1, c2, c3, ok, h1, rfl, hx⟩ := g
  rw [h] at h1
  simp only [ofT, Prod.mk.injEq] at h1
  obtain ⟨rfl, rfl, rfl, rfl, rfl⟩ := h1
  exact ⟨rfl, hx⟩
theorem where_no {w w' : World} {b : Bk} {e v wd : Int} {z : Ending} (h : whereP b e v wd = none) (g : WherePost w b e v wd z w') :
    z = .returned (.tuple #[.agg #[.int .i64 0, .int .i64 0], .int .i64 0, .bool false]) ∧ Ext w w' := by
  rcases g with ⟨_, rfl, hx⟩ | ⟨n, s, i, h1, _⟩
  · exact ⟨rfl, hx⟩
  · rw [h] at h1; cases h1
theorem where_yes {w w' : World} {b : Bk} {e v wd n s : Int} {i : Nat} {z : Ending} (h : whereP b e v wd = some (n, s, i)) (g : WherePost w b e v wd z w') :
    z = .returned (.tuple #[.agg #[.int .i64 n, .int .i64 s], .int .i64 i, .bool true]) ∧ Ext w w' := by
  rcases g with ⟨h1, _⟩ | ⟨n', s', i', h1, rfl, hx⟩
  · rw [h] at h1; cases h1
  · rw [h] at h1
    simp only [Option.some.injEq, Prod.mk.injEq] at h1
    obtain ⟨rfl, rfl, rfl⟩ := h1
    exact ⟨rfl, hx⟩
theorem find_yes {w w' : World} {b : Bk} {n s line : Int} {p : Pg} {x : Ln} {z : Ending} (h : citP b n s line = some (p, x)) (g : FindPost w b n s line z w') :
    ∃ (A7 : Option Addr) (n7 c7 : Nat) (A8 : Option Addr) (n8 c8 : Nat) (A1 : Option Addr) (n1 c1 : Nat) (A2 : Option Addr) (n2 c2 : Nat),
    z = .returned (.tuple #[.agg #[.int .i64 p.num, .int .i64 p.suf, .int .i64 p.ent, .int .i64 p.ver, .slice A7 n7 c7, .slice A8 n8 c8], .agg #[.int .i64 x.fr, .int .i64 x.un, .slice A1 n1 c1, .slice A2 n2 c2], .bool true]) ∧ Ext w w' := by
  obtain ⟨hx, ⟨h1, _⟩ | ⟨p', x', A7, n7, c7, A8, n8, c8, A1, n1, c1, A2, n2, c2, h1, rfl, _⟩⟩ := g
  · rw [h] at h1; cases h1
  · rw [h] at h1
    simp only [Option.some.injEq, Prod.mk.injEq] at h1
    obtain ⟨rfl, rfl⟩ := h1
    exact ⟨A7, n7, c7, A8, n8, c8, A1, n1, c1, A2, n2, c2, rfl, hx⟩
theorem txt_size {c : Ct} (h : citB c = true) : (⟨(textPC c).toArray⟩ : ByteArray).size ≤ 1000 := by
  obtain ⟨h1, h2, h3, h4, h5, h6, h7, h8⟩ := citB_cases h
  have e1 := dec_len c.br.toNat (by omega)
  have e2 := lab_len c.nu.toNat c.su.toNat (by omega) (by omega)
  have e3 := dec_len c.li.toNat (by omega)
  have e1' : (Lib.decDigits c.br.toNat).length ≤ 100 := e1
  have e2' : (Lib.decDigits c.nu.toNat ++ lets c.su.toNat).length ≤ 200 := e2
  have e3' : (Lib.decDigits c.li.toNat).length ≤ 100 := e3
  show (textPC c).toArray.size ≤ 1000
  unfold textPC
  rw [if_pos h]
  simp only [List.length_append] at e2'
  simp
  omega
set_option maxHeartbeats 4000000 in
set_option maxRecDepth 100000 in
theorem leads_law (A : Option Addr) (c : Nat) (l : List Int) (a v wd br : Int) (w : World) (hE : Env w) (hL : EnvW w) (hLV : ∀ X, Ext w X → Calls Tryz.prog 47 #[] X (fun e X' => e = .returned (.bool true) ∧ Ext X X')) (hl : IL w A c l) (hll : l.length ≤ 9223372036854775807)
    (ha : -9223372036854775808 ≤ a ∧ a ≤ 9223372036854775807) (hv : -9223372036854775808 ≤ v ∧ v ≤ 9223372036854775807) (hw : -9223372036854775808 ≤ wd ∧ wd ≤ 9223372036854775807) (hbr : -9223372036854775808 ≤ br ∧ br ≤ 9223372036854775807) :
    Calls Tryz.prog 13 #[.slice A l.length c, .int .i64 a, .int .i64 v, .int .i64 wd, .int .i64 br] w (fun e w' => e = .returned (.bool true) ∧ Ext w w') := by
  have HBK := Lib.hid (gbook_any A c l w hl hll)
  have HLV := Lib.hid hLV
  have HL := Lib.hid hL
  have HE := Lib.hid hE
  have HAR := Lib.hid (fun X => around_fn br 256 X hbr.1 hbr.2 (by omega) (by omega))
  have HPL := Lib.hid (fun (X : World) (P : Nat → Prop) (b : Bk) (A : Option Addr) (N c : Nat) hb hr => place_any P X b a v wd A N c hb hr ha hv hw)
  obtain ⟨m, hm⟩ : ∃ m, l.length = m := ⟨_, rfl⟩
  obtain ⟨r, hr0⟩ : ∃ r, arnd br 256 = r := ⟨_, rfl⟩
  have HR0 := Lib.hid (show 0 ≤ r ∧ r < 256 by rw [← hr0]; exact arnd_in br 256 (by omega))
  rw [hm] at HBK ⊢
  rw [hr0] at HAR
  clear hL hE hLV hl hll ha hv hw hm hbr hr0
  go_enter Tryz.func13, Tryz.ntmps13
  go_upto_region 2 with (first | (go_at_call 39; refine (HBK.out).mono ?_; rintro e w1 ⟨b, A1, n, c1, rfl, hok, hnc, hr, hx⟩) | (go_at_call 35; refine (freeze_any _ _ b A1 n c1 hr ((hok.okB.bkI (by omega) (by omega) (by omega)).s)).mono ?_; rintro z9 w1' ⟨g, rfl, hbk, hx6⟩))
  have hn4 : n ≤ 4 := by have := Lay.row_len hr; have := hok.n; omega
  have hfl : (frzP b).secs.length = n := by rw [Lay.row_len hr]; simp [frzP]
  have hrf := hbk.row
  rw [hfl] at hrf
  have hx1 : Ext w (w1'.alloc (.cells #[.int .i64 b.ms, .int .i64 b.ht, .slice (some ⟨g, 0, none⟩) n n] 27)) := (hx.trans hx6).alloc _
  have hr1 := Lay.row_ext hrf ((Ext.refl w1').alloc (.cells #[.int .i64 b.ms, .int .i64 b.ht, .slice (some ⟨g, 0, none⟩) n n] 27))
  have hB := heap_alloc_new w1' (.cells #[.int .i64 b.ms, .int .i64 b.ht, .slice (some ⟨g, 0, none⟩) n n] 27)
  obtain ⟨w2, hw2⟩ : ∃ w2, w1'.alloc (.cells #[.int .i64 b.ms, .int .i64 b.ht, .slice (some ⟨g, 0, none⟩) n n] 27) = w2 := ⟨_, rfl⟩
  obtain ⟨zb, hzb⟩ : ∃ zb, w1'.heap.size = zb := ⟨_, rfl⟩
  rw [hw2] at hx1 hr1 hB ⊢
  rw [hzb] at hB ⊢
  have HB := Lib.hid hB
  have HX := Lib.hid hx1
  have HR := Lib.hid hr1
  have HOK := Lib.hid hok.okB.frz
  have HBI := Lib.hid (hok.okB.frz.bkI (by omega) (by omega) (by omega))
  have HAL := Lib.hid (frzP_all b)
  have b0 := cell_of hB (i := 0) (u := .int .i64 b.ms) rfl
  have b1 := cell_of hB (i := 1) (u := .int .i64 b.ht) rfl
  have b2 := cell_of hB (i := 2) (u := .slice (some ⟨g, 0, none⟩) n n) rfl
  clear hx hr hok hnc hx1 hr1 hB hw2 hzb HBK hrf hfl hbk hx6 hn4
  have HP2 := Lib.hid (show Calls Tryz.prog 40 #[.agg #[.int .i64 b.ms, .int .i64 b.ht, .slice (some ⟨g, 0, none⟩) n n], .int .i64 a, .int .i64 v, .int .i64 wd] w2 (PlaceGet w2) from HPL.out w2 _ (frzP b) (some ⟨g, 0, none⟩) n n (HOK.out.big (by omega) (by omega)) HR.out)
  clear HPL
  go_upto_region 3 with (first | (go_at_call 40; refine (HP2.out).mono ?_; rintro z w3 ⟨e, x, y, rfl, hx⟩))
  have HX3 := Lib.hid (HX.out.trans hx)
  have HR3 := Lib.hid (Lay.row_ext HR.out hx)
  have HB3 := Lib.hid ((hx.block _ (lt_of_block HB.out)).trans HB.out)
  have b0 := cell_of HB3.out (i := 0) (u := .int .i64 b.ms) rfl
  have b1 := cell_of HB3.out (i := 1) (u := .int .i64 b.ht) rfl
  have b2 := cell_of HB3.out (i := 2) (u := .slice (some ⟨g, 0, none⟩) n n) rfl
  clear hx HP2 HX HR HB
  go_upto_region 4 with (first | (go_at_call 42; refine (HAR.out w3).mono ?_; rintro z w3' ⟨rfl, rfl⟩))
  clear HAR
  have HO1 := Lib.hid (show Calls Tryz.prog 48 #[.agg #[.int .i64 b.ms, .int .i64 b.ht, .slice (some ⟨g, 0, none⟩) n n], .int .i64 r, .int .i64 e, .int .i64 x, .int .i64 y] w3 (OfG w3 (frzP b) r e x y) from of_gen _ w3 (frzP b) r e x y _ n n HBI.out HR3.out (HL.out.ext HX3.out))
  rcases leads_plain HOK.out HAL.out r e x y HR0.out.1 HR0.out.2 with ⟨hw, ho⟩ | ⟨nn, s, i, p, ln, hw, ho, hc, he, hv, hfr, hun, hi, hct⟩
  · have HW := Lib.hid hw
    have HO := Lib.hid ho
    clear hw ho
    go_upto_region 5 with (first | (go_at_call 48; refine (HO1.out).mono ?_; intro z w4 hz; obtain ⟨rfl, hx⟩ := of_no HO.out hz))
    have hx5 : Ext w3 (w4.alloc (.cells #[.int .i64 0, .int .i64 0, .int .i64 0, .int .i64 0] 69)) := hx.alloc _
    have hz := heap_alloc_new w4 (.cells #[.int .i64 0, .int .i64 0, .int .i64 0, .int .i64 0] 69)
    obtain ⟨w5, hw5⟩ : ∃ w5, w4.alloc (.cells #[.int .i64 0, .int .i64 0, .int .i64 0, .int .i64 0] 69) = w5 := ⟨_, rfl⟩
    obtain ⟨z, hzz⟩ : ∃ z, w4.heap.size = z := ⟨_, rfl⟩
    rw [hw5] at hx5 hz ⊢
    rw [hzz] at hz ⊢
    have HZ := Lib.hid hz
    have HX5 := Lib.hid (HX3.out.trans hx5)
    have hB5 := (hx5.block _ (lt_of_block HB3.out)).trans HB3.out
    have b0 := cell_of hB5 (i := 0) (u := .int .i64 b.ms) rfl
    have b1 := cell_of hB5 (i := 1) (u := .int .i64 b.ht) rfl
    have b2 := cell_of hB5 (i := 2) (u := .slice (some ⟨g, 0, none⟩) n n) rfl
    have HWH := Lib.hid (show Calls Tryz.prog 33 #[.agg #[.int .i64 b.ms, .int .i64 b.ht, .slice (some ⟨g, 0, none⟩) n n], .int .i64 e, .int .i64 x, .int .i64 y] w5 (WherePost w5 (frzP b) e x y) from where_any _ w5 (frzP b) e x y _ n n HBI.out (Lay.row_ext HR3.out hx5) (HL.out.ext HX5.out))
    clear hx hx5 hz hw5 hzz hB5 HO1 HX3 HB3 HR3
    go_upto_region 6 with (first | (go_at_call 33; refine (HWH.out).mono ?_; intro z9 w6 hz; obtain ⟨rfl, hx⟩ := where_no HW.out hz))
    have hz6 := (hx.block _ (lt_of_block HZ.out)).trans HZ.out
    have hx7 : Ext w6 (w6.alloc (.cells #[.int .i64 0, .int .i64 0] 64)) := (Ext.refl w6).alloc _
    obtain ⟨w7, hw7⟩ : ∃ w7, w6.alloc (.cells #[.int .i64 0, .int .i64 0] 64) = w7 := ⟨_, rfl⟩
    obtain ⟨z7, hz7⟩ : ∃ y, w6.heap.size = y := ⟨_, rfl⟩
    rw [hw7] at hx7 ⊢
    rw [hz7]
    have hzz := (hx7.block _ (lt_of_block hz6)).trans hz6
    have a0 := cell_of hzz (i := 0) (u := .int .i64 0) rfl
    have a1 := cell_of hzz (i := 1) (u := .int .i64 0) rfl
    have a2 := cell_of hzz (i := 2) (u := .int .i64 0) rfl
    have a3 := cell_of hzz (i := 3) (u := .int .i64 0) rfl
    have HX7 := Lib.hid ((HX5.out.trans hx).trans hx7)
    have HLW := Lib.hid (HLV.out w7 HX7.out)
    clear b0 b1 b2 hx hz6 hx7 hw7 hz7 hzz HZ HWH HX5 HLV
    go_wp2_with (first | (go_at_call 47; refine (HLW.out).mono ?_; rintro z11 w9 ⟨rfl, hx9⟩))
    go_ret
    exact ⟨rfl, HX7.out.trans hx9⟩
  · have HW := Lib.hid hw
    have HO := Lib.hid ho
    have HC := Lib.hid hc
    have HF := Lib.hid (And.intro he (And.intro hv (And.intro hfr hun)))
    have HI := Lib.hid hi
    have HCT := Lib.hid hct
    clear hw ho hc he hv hfr hun hi hct
    go_upto_region 5 with (first | (go_at_call 48; refine (HO1.out).mono ?_; intro z w4 hz; obtain ⟨rfl, hx⟩ := of_yes HO.out hz))
    have hx5 : Ext w3 (w4.alloc (.cells #[.int .i64 r, .int .i64 nn, .int .i64 s, .int .i64 i] 69)) := hx.alloc _
    have hz := heap_alloc_new w4 (.cells #[.int .i64 r, .int .i64 nn, .int .i64 s, .int .i64 i] 69)
    obtain ⟨w5, hw5⟩ : ∃ w5, w4.alloc (.cells #[.int .i64 r, .int .i64 nn, .int .i64 s, .int .i64 i] 69) = w5 := ⟨_, rfl⟩
    obtain ⟨z, hzz⟩ : ∃ z, w4.heap.size = z := ⟨_, rfl⟩
    rw [hw5] at hx5 hz ⊢
    rw [hzz] at hz ⊢
    have HZ := Lib.hid hz
    have HX5 := Lib.hid (HX3.out.trans hx5)
    have HR5 := Lib.hid (Lay.row_ext HR3.out hx5)
    have hB5 := (hx5.block _ (lt_of_block HB3.out)).trans HB3.out
    have HB5 := Lib.hid hB5
    have b0 := cell_of hB5 (i := 0) (u := .int .i64 b.ms) rfl
    have b1 := cell_of hB5 (i := 1) (u := .int .i64 b.ht) rfl
    have b2 := cell_of hB5 (i := 2) (u := .slice (some ⟨g, 0, none⟩) n n) rfl
    have HWH := Lib.hid (show Calls Tryz.prog 33 #[.agg #[.int .i64 b.ms, .int .i64 b.ht, .slice (some ⟨g, 0, none⟩) n n], .int .i64 e, .int .i64 x, .int .i64 y] w5 (WherePost w5 (frzP b) e x y) from where_any _ w5 (frzP b) e x y _ n n HBI.out (Lay.row_ext HR3.out hx5) (HL.out.ext HX5.out))
    clear hx hx5 hz hw5 hzz hB5 HO1 HX3 HB3 HR3
    go_upto_region 6 with (first | (go_at_call 33; refine (HWH.out).mono ?_; intro z9 w6 hz; obtain ⟨rfl, hx⟩ := where_yes HW.out hz))
    have hx7 : Ext w6 (w6.alloc (.cells #[.int .i64 nn, .int .i64 s] 64)) := (Ext.refl w6).alloc _
    obtain ⟨w7, hw7⟩ : ∃ w7, w6.alloc (.cells #[.int .i64 nn, .int .i64 s] 64) = w7 := ⟨_, rfl⟩
    obtain ⟨z7, hz7⟩ : ∃ y, w6.heap.size = y := ⟨_, rfl⟩
    rw [hw7] at hx7 ⊢
    rw [hz7]
    have HX57 := Lib.hid (hx.trans hx7)
    have hzz := (HX57.out.block _ (lt_of_block HZ.out)).trans HZ.out
    have hB7 := (HX57.out.block _ (lt_of_block HB5.out)).trans HB5.out
    have a0 := cell_of hzz (i := 0) (u := .int .i64 r) rfl
    have a1 := cell_of hzz (i := 1) (u := .int .i64 nn) rfl
    have a2 := cell_of hzz (i := 2) (u := .int .i64 s) rfl
    have a3 := cell_of hzz (i := 3) (u := .int .i64 i) rfl
    have b0 := cell_of hB7 (i := 0) (u := .int .i64 b.ms) rfl
    have b1 := cell_of hB7 (i := 1) (u := .int .i64 b.ht) rfl
    have b2 := cell_of hB7 (i := 2) (u := .slice (some ⟨g, 0, none⟩) n n) rfl
    have HX7 := Lib.hid (HX5.out.trans HX57.out)
    have HZ7 := Lib.hid hzz
    have HFD := Lib.hid (show Calls Tryz.prog 44 #[.agg #[.int .i64 b.ms, .int .i64 b.ht, .slice (some ⟨g, 0, none⟩) n n], .agg #[.int .i64 r, .int .i64 nn, .int .i64 s, .int .i64 i]] w7 (FindPost w7 (frzP b) nn s i) from find_cite _ w7 (frzP b) r nn s i _ n n HBI.out (Lay.row_ext HR5.out HX57.out) (HL.out.ext HX7.out) (by omega) (by have := HI.out; omega))
    clear hx hx7 hw7 hz7 hzz hB7 HZ HWH HX5 HX57 HB5 HR5
    go_upto_region 11 with (first | (go_at_call 44; refine (HFD.out).mono ?_; intro z9 w8 hz; obtain ⟨A7, n7, c7, A8, n8, c8, A9, n9, c9, A2, n2, c2, rfl, hx⟩ := find_yes HC.out hz))
    obtain ⟨O8, hO8⟩ : ∃ O, (Obj.cells #[.int .i64 p.num, .int .i64 p.suf, .int .i64 p.ent, .int .i64 p.ver, .slice A7 n7 c7, .slice A8 n8 c8] 84) = O := ⟨_, rfl⟩
    obtain ⟨O9, hO9⟩ : ∃ O, (Obj.cells #[.int .i64 ln.fr, .int .i64 ln.un, .slice A9 n9 c9, .slice A2 n2 c2] 86) = O := ⟨_, rfl⟩
    have hx9 : Ext w7 ((w8.alloc O8).alloc O9) := (hx.alloc _).alloc _
    have h8 : ((w8.alloc O8).alloc O9).heap[w8.heap.size]? = some (.cells #[.int .i64 p.num, .int .i64 p.suf, .int .i64 p.ent, .int .i64 p.ver, .slice A7 n7 c7, .slice A8 n8 c8] 84 (0, 0)) := by
      rw [← hO8, heap_alloc_old _ _ _ (by rw [World.size_alloc]; omega)]
      exact heap_alloc_new w8 _
    have h9 : ((w8.alloc O8).alloc O9).heap[w8.heap.size + 1]? = some (.cells #[.int .i64 ln.fr, .int .i64 ln.un, .slice A9 n9 c9, .slice A2 n2 c2] 86 (0, 0)) := by
      rw [← hO9]
      exact heap_alloc_at _ _ _ _ (by rw [World.size_alloc])
    rw [hO8, hO9]
    obtain ⟨w9, hw9⟩ : ∃ w9, (w8.alloc O8).alloc O9 = w9 := ⟨_, rfl⟩
    obtain ⟨z9, hz9⟩ : ∃ z, w8.heap.size + 1 = z := ⟨_, rfl⟩
    obtain ⟨z8, hz8⟩ : ∃ z, w8.heap.size = z := ⟨_, rfl⟩
    rw [hw9] at hx9 h8 h9 ⊢
    rw [hz9] at h9 ⊢
    rw [hz8] at h8 ⊢
    have H8 := Lib.hid h8
    have H9 := Lib.hid h9
    have HX9 := Lib.hid (HX7.out.trans hx9)
    have hzz := (hx9.block _ (lt_of_block HZ7.out)).trans HZ7.out
    have a0 := cell_of hzz (i := 0) (u := .int .i64 r) rfl
    have a1 := cell_of hzz (i := 1) (u := .int .i64 nn) rfl
    have a2 := cell_of hzz (i := 2) (u := .int .i64 s) rfl
    have a3 := cell_of hzz (i := 3) (u := .int .i64 i) rfl
    have HZ9 := Lib.hid hzz
    obtain ⟨S, hS⟩ : ∃ S : ByteArray, ⟨(textPC ⟨r, nn, s, i⟩).toArray⟩ = S := ⟨_, rfl⟩
    have HTX := Lib.hid (show Calls Tryz.prog 50 #[.agg #[.int .i64 r, .int .i64 nn, .int .i64 s, .int .i64 i]] w9 (fun e X' => e = .returned (.string S) ∧ Ext w9 X') from by
      have := ctext_any ⟨r, nn, s, i⟩ w9 (HE.out.ext HX9.out).tab
      unfold StrPost at this
      rw [hS] at this
      exact this)
    have HPS := Lib.hid (fun X (hX : Ext w9 X) => (show Calls Tryz.prog 49 #[.string S] X (fun e X' => e = .returned (.tuple #[.agg #[.int .i64 r, .int .i64 nn, .int .i64 s, .int .i64 i], .int .i64 0]) ∧ Ext X X') from by
      have := cparse_any S X (by rw [← hS]; have := txt_size HCT.out; omega) (HE.out.ext (HX9.out.trans hX))
      rw [show S.data.toList = textPC ⟨r, nn, s, i⟩ by rw [← hS], parse_text HCT.out] at this
      exact this))
    clear hx hx9 h8 h9 hw9 hz8 hz9 hO8 hO9 hzz HX7 HZ7 HFD HC hS b0 b1 b2 O8 O9
    go_upto_region 12 with (first | (go_at_call 50; refine (HTX.out).mono ?_; rintro z10 w10 ⟨rfl, hx10⟩) | (go_at_call 49; refine (HPS.out w10 hx10).mono ?_; rintro z11 w11 ⟨rfl, hx11⟩))
    have hx12 : Ext w11 (w11.alloc (.cells #[.int .i64 r, .int .i64 nn, .int .i64 s, .int .i64 i] 69)) := (Ext.refl w11).alloc _
    have hc := heap_alloc_new w11 (.cells #[.int .i64 r, .int .i64 nn, .int .i64 s, .int .i64 i] 69)
    obtain ⟨w12, hw12⟩ : ∃ w12, w11.alloc (.cells #[.int .i64 r, .int .i64 nn, .int .i64 s, .int .i64 i] 69) = w12 := ⟨_, rfl⟩
    obtain ⟨z12, hz12⟩ : ∃ z, w11.heap.size = z := ⟨_, rfl⟩
    rw [hw12] at hx12 hc ⊢
    rw [hz12] at hc ⊢
    have HYtdbnddmncbjobaaGreatDoor := Lib.hid ((hx10.trans hx11).trans hx12)
    have k8 := (HYtdbnddmncbjobaaGreatDoor.out.block _ (lt_of_block H8.out)).trans H8.out
    have k9 := (HYtdbnddmncbjobaaGreatDoor.out.block _ (lt_of_block H9.out)).trans H9.out
    have kz := (HYtdbnddmncbjobaaGreatDoor.out.block _ (lt_of_block HZ9.out)).trans HZ9.out
    have a0 := cell_of kz (i := 0) (u := .int .i64 r) rfl
    have a1 := cell_of kz (i := 1) (u := .int .i64 nn) rfl
    have a2 := cell_of kz (i := 2) (u := .int .i64 s) rfl
    have a3 := cell_of kz (i := 3) (u := .int .i64 i) rfl
    have q0 := cell_of hc (i := 0) (u := .int .i64 r) rfl
    have q1 := cell_of hc (i := 1) (u := .int .i64 nn) rfl
    have q2 := cell_of hc (i := 2) (u := .int .i64 s) rfl
    have q3 := cell_of hc (i := 3) (u := .int .i64 i) rfl
    have p2 := cell_of k8 (i := 2) (u := .int .i64 e) (by rw [← HF.out.1]; rfl)
    have p3 := cell_of k8 (i := 3) (u := .int .i64 x) (by rw [← HF.out.2.1]; rfl)
    have l0 := cell_of k9 (i := 0) (u := .int .i64 ln.fr) rfl
    have l1 := cell_of k9 (i := 1) (u := .int .i64 ln.un) rfl
    have hfr := HF.out.2.2.1
    have hun := HF.out.2.2.2
    have HX12 := Lib.hid (HX9.out.trans HYtdbnddmncbjobaaGreatDoor.out)
    have HLW := Lib.hid (HLV.out w12 HX12.out)
    clear hx10 hx11 hx12 hc hw12 hz12 k8 k9 kz H8 H9 HZ9 HYtdbnddmncbjobaaGreatDoor HX9 HTX HPS HLV HF
    go_wp2_with (first | (go_at_call 47; refine (HLW.out).mono ?_; rintro z13 w13 ⟨rfl, hx13⟩))
    go_ret
    exact ⟨rfl, HX12.out.trans hx13⟩
end Go.Proofs.YtdbnddmncbjobaaGreatDoor

/- The contracts of the law's 'fails' and of the reference's generator of citations. -/
namespace Go.Proofs.YtdbnddmncbjobaaGreatDoor
open Go Go.RowKit

set_option maxRecDepth 100000 in
theorem fails_any (s : ByteArray) (er : Int) (w : World) (hs : s.size ≤ 281474976710656) (hE : Env w) (hp : parseP s.data.toList = (ct0, er)) :
    Calls Tryz.prog 95 #[.string s, .int .i64 er] w (BoolPost true w) := by
  have H := Lib.hid (show ∀ W, Ext w W → Calls Tryz.prog 49 #[.string s] W (fun e W' => e = .returned (.tuple #[.agg #[.int .i64 0, .int .i64 0, .int .i64 0, .int .i64 0], .int .i64 er]) ∧ Ext W W') from fun W hW => by
    have := cparse_any s W hs (hE.ext hW); rw [hp] at this; exact this)
  clear hp hE
  go_enter Tryz.func95, Tryz.ntmps95
  go_wp2_with (first | (go_at_call 49; refine (H.out _ (Ext.refl _)).mono ?_; rintro e w1 ⟨rfl, hx⟩))
  go_ret
  exact ⟨rfl, hx.alloc _⟩
end Go.Proofs.YtdbnddmncbjobaaGreatDoor

/- The contracts of slices.Grow at nil and of slices.Concat at two lists of paragraphs. -/
namespace Go.Proofs.YtdbnddmncbjobaaGreatDoor
open Go Go.RowKit

theorem info44 : (Tryz.prog.info? 54).map (fun i => (i.zero, i.size, i.bytes)) = some (some (.slice none 0 0), 1, 24) := by kernel_rfl
theorem info25 : (Tryz.prog.info? 69).map (fun i => (i.zero, i.size, i.bytes)) = some (some (.agg #[.int .i64 0, .int .i64 0, .int .i64 0, .int .i64 0]), 4, 32) := by kernel_rfl
/-- A slice as plain data. -/
structure SlC where
  A : Option Addr
  n : Nat
  c : Nat
def SlC.val (s : SlC) : Value := .slice s.A s.n s.c
def slcC (s : SlC) : List Value := [s.val]
theorem slc_lenC (a : SlC) : (slcC a).length = 1 := rfl
theorem slc_oneC (a : SlC) : ∀ u ∈ slcC a, u.oneCell' = true := fun u hu => by
  obtain rfl : u = a.val := by simpa [slcC] using hu
  rfl
def GrowPost (w : World) (e : Ending) (w' : World) : Prop := ∃ A c, e = .returned (.slice A 0 c) ∧ OL slcC 1 w' w.heap.size 54 (.slice A 0 c) [] ∧ Ext w w'
set_option maxHeartbeats 2000000 in
set_option maxRecDepth 100000 in
theorem grow_any (n : Nat) (w : World) (hn : n ≤ 100000) : Calls Tryz.prog 125 #[.slice none 0 0, .int .i64 n] w (GrowPost w) := by
  by_cases h0 : n = 0
  · subst h0
    go_enter Tryz.func125, Tryz.ntmps125
    go_wp2
    go_ret
    exact ⟨none, 0, rfl, OL.nil _ _ _, Ext.refl _⟩
  · obtain ⟨i, hi, hz, hs, hb⟩ := info_parts info44
    have hrun := fun W => Lib.run_append_nil_zeros (P := Tryz.prog) W 51 3 51 54 i _ .i64 .i64 Tryz.underlying51 Tryz.underlying3 hi hz n (by omega) (by omega) (by omega) (by rw [hb]; omega)
    have HRUN := Lib.hid hrun
    have hne : ¬ (n : Int) < 0 := by omega
    have hpo : (0 : Int) < (n : Int) := by omega
    clear hrun hi hs hb
    have hz' : (Value.slice none 0 0).cells.size = 1 := rfl
    go_enter Tryz.func125, Tryz.ntmps125
    go_wp2_with (first | (at_builtin; refine Lib.wpList_append_run _ rfl (.tmp 20) (.tmp 21) 51 3 rfl _ _ rfl rfl _ _ (HRUN.out _) ?_))
    go_ret
    refine ⟨_, _, rfl, ⟨by simp [gcells], .inr ⟨w.heap.size, _, _, rfl, Nat.le_refl _, heap_alloc_new w _, Nat.zero_le _, grownCap_le_maxLen _ _ _ _ (by unfold maxLen; omega), ?_, by simp [gcells]⟩⟩, ((Ext.refl w).alloc _).drew⟩
    have hg := grownCap_ge w n 0 54
    rw [Array.size_append, size_zeroCells, size_zeroCells]
    simp
    omega
def CatPost (W : World) (l : List SlC) (e : Ending) (W' : World) : Prop := ∃ A c, e = .returned (.slice A l.length c) ∧ SL slcC 1 W' A l.length l ∧ Ext W W'
def Cat1C (m1 m2 : Nat) (s3 s11 : Value) : Prop := (s11 = .int .i64 0 ∧ s3 = .int .i64 0) ∨ (s11 = .int .i64 1 ∧ s3 = .int .i64 m1) ∨ (s11 = .int .i64 2 ∧ s3 = .int .i64 ((m1 : Int) + (m2 : Int)))
def Cat2C (W : World) (m1 m2 : Nat) (l1 l2 : List SlC) (s6 s27 : Value) (w' : World) : Prop := Ext W w' ∧ ((s27 = .int .i64 0 ∧ OL slcC 1 w' W.heap.size 54 s6 [] ∧ ∃ A c, s6 = .slice A 0 c) ∨
  (s27 = .int .i64 1 ∧ OL slcC 1 w' W.heap.size 54 s6 l1 ∧ ∃ A c, s6 = .slice A m1 c) ∨ (s27 = .int .i64 2 ∧ OL slcC 1 w' W.heap.size 54 s6 (l1 ++ l2) ∧ ∃ A c, s6 = .slice A (m1 + m2) c))
def upMC (v : Value) : Nat := match v with | .int _ z => 2 - z.toNat | _ => 0
theorem ap40 {w : World} {base : Nat} {v : Value} {l : List SlC} (h : OL slcC 1 w base 54 v l) {A : Option Addr} {m : Nat} {l' : List SlC} (hs : SL slcC 1 w A m l') (c : Nat) (hm : l.length + m ≤ 100000000) (hbase : base ≤ w.heap.size) :
    ∃ A' c' w', (Builtin.append_ #[51, 51] 51 #[v, .slice A m c]).run Tryz.prog w = .ok (.slice A' (l.length + m) c') w' ∧ OL slcC 1 w' base 54 (.slice A' (l.length + m) c') (l ++ l') ∧ (∀ B, B ≤ base → Below B w w') ∧
      (∀ k, k < w.heap.size → (∀ a, v ≠ .slice (some ⟨k, 0, none⟩) l.length a) → w'.heap[k]? = w.heap[k]?) :=
  OL.append slc_lenC slc_oneC (by omega) Tryz.underlying51 info44 rfl (by omega) h hs c hm hbase
set_option maxHeartbeats 4000000 in
set_option maxRecDepth 100000 in
theorem concat_any (W : World) (g : Nat) (A1 A2 : Option Addr) (c1 c2 : Nat) (l1 l2 : List SlC) (h1 : SL slcC 1 W A1 l1.length l1) (h2 : SL slcC 1 W A2 l2.length l2) (hl1 : l1.length ≤ 10000) (hl2 : l2.length ≤ 10000)
    (hg : g < W.heap.size) (hg0 : W.cell? ⟨g, 0, none⟩ = some (.slice A1 l1.length c1)) (hg1 : W.cell? ⟨g, 1, none⟩ = some (.slice A2 l2.length c2)) :
    Calls Tryz.prog 72 #[.slice (some ⟨g, 0, none⟩) 2 2] W (CatPost W (l1 ++ l2)) := by
  have H1 := Lib.hid h1
  have H2 := Lib.hid h2
  have HGW := Lib.hid (fun W' => (show Calls Tryz.prog 125 #[.slice none 0 0, .int .i64 ((l1.length : Int) + (l2.length : Int))] W' (GrowPost W') from by
    have := grow_any (l1.length + l2.length) W' (by omega)
    rwa [Int.natCast_add] at this))
  clear h1 h2
  generalize hm1 : l1.length = m1 at *
  generalize hm2 : l2.length = m2 at *
  have HM1 := Lib.hid hm1
  have HM2 := Lib.hid hm2
  clear hm1 hm2
  go_enter Tryz.func72, Tryz.ntmps72
  go_wp2_with fail
  go_loop [3, 11] (fun s3 s11 => Cat1C m1 m2 s3 s11) (fun _ s11 => upMC s11)
  case atStart => exact .inl ⟨rfl, rfl⟩
  case round =>
    rcases hrel with ⟨rfl, rfl⟩ | ⟨rfl, rfl⟩ | ⟨rfl, rfl⟩
    · go_wp2_with fail
      exact ⟨.inr (.inl ⟨rfl, rfl⟩), by simp [upMC]⟩
    · go_wp2_with fail
      exact ⟨.inr (.inr ⟨rfl, rfl⟩), by simp [upMC]⟩
    · go_wp2_with (first | (go_at_call 125; refine (HGW.out _).mono ?_; rintro e w1 ⟨A, c, rfl, ho, hx⟩))
      have HO := Lib.hid ho
      have HX := Lib.hid hx
      clear ho hx
      go_loopw [6, 27] (fun s6 s27 w' => Cat2C W m1 m2 l1 l2 s6 s27 w') (fun _ s27 _ => upMC s27)
      case atStart => exact ⟨HX.out, .inl ⟨rfl, HO.out, _, _, rfl⟩⟩
      case round =>
        obtain ⟨hxr, hrel⟩ := hrel
        have HXR := Lib.hid hxr
        obtain ⟨q, _⟩ := hxr.cells
        have hq0 := (q g 0 hg).trans hg0
        have hq1 := (q g 1 hg).trans hg1
        have hle := hxr.lt
        clear q hxr
        rcases hrel with ⟨rfl, ho, A', c', rfl⟩ | ⟨rfl, ho, A', c', rfl⟩ | ⟨rfl, ho, A', c', rfl⟩
        · obtain ⟨A3, c3, w3, hrun, ho3, hb3, _⟩ := ap40 ho (H1.out.ext HXR.out) c1 (by simp; omega) hle
          have HO3 := Lib.hid ho3
          have HB3 := Lib.hid hb3
          clear ho ho3 hb3
          go_wp2_with (first | (at_builtin; refine wpList_append_run (s := .tmp 31) (x := .tmp 32) hrun rfl rfl rfl rfl rfl ?_))
          refine ⟨⟨?_, .inr (.inl ⟨rfl, by simpa using HO3.out, A3, c3, rfl⟩)⟩, by simp [upMC]⟩
          exact Below.trans HXR.out (HB3.out _ (Nat.le_refl _))
        · obtain ⟨A3, c3, w3, hrun, ho3, hb3, _⟩ := ap40 ho (H2.out.ext HXR.out) c2 (by have := HM1.out; omega) hle
          have HO3 := Lib.hid ho3
          have HB3 := Lib.hid hb3
          rw [HM1.out] at hrun
          clear ho ho3 hb3
          go_wp2_with (first | (at_builtin; refine wpList_append_run (s := .tmp 31) (x := .tmp 32) hrun rfl rfl rfl rfl rfl ?_))
          refine ⟨⟨?_, .inr (.inr ⟨rfl, by have := HO3.out; rw [HM1.out] at this; exact this, A3, c3, rfl⟩)⟩, by simp [upMC]⟩
          exact Below.trans HXR.out (HB3.out _ (Nat.le_refl _))
        · have HO := Lib.hid ho
          clear ho
          go_wp2_with fail
          go_ret
          obtain ⟨A9, c9, e9, _, hs9⟩ := OL.form slc_lenC HO.out
          injection e9 with e1 e2 e3
          subst e1 e3
          refine ⟨A', c', ?_, hs9, HXR.out⟩
          rw [List.length_append, HM1.out, HM2.out]
          rfl
end Go.Proofs.YtdbnddmncbjobaaGreatDoor

/- The contract of cite.Scan. -/
namespace Go.Proofs.YtdbnddmncbjobaaGreatDoor
open Go Go.RowKit

/-- A word of a text as plain data. -/
structure WdC where
  s : ByteArray
  key : ByteArray
  tb : Int
  nt : Int
def wcfC (w : WdC) : List Value := [.string w.s, .string w.key, .int .i64 w.tb, .int .i64 w.nt]
def ccfC (c : Ct) : List Value := [.int .i64 c.br, .int .i64 c.nu, .int .i64 c.su, .int .i64 c.li]
theorem wcf_lenC (a : WdC) : (wcfC a).length = 4 := rfl
theorem ccf_lenC (a : Ct) : (ccfC a).length = 4 := rfl
theorem ccf_oneC (a : Ct) : ∀ u ∈ ccfC a, u.oneCell' = true := fun u hu => by
  simp only [ccfC, List.mem_cons, List.not_mem_nil, or_false] at hu
  rcases hu with rfl | rfl | rfl | rfl <;> rfl
/-- The paragraphs ps hold the words ll. -/
def TX (W : World) (ps : List SlC) (ll : List (List WdC)) : Prop := ps.length = ll.length ∧ ∀ (i : Nat) (s : SlC) (l : List WdC), ps[i]? = some s → ll[i]? = some l → SL wcfC 4 W s.A s.n l ∧ l.length ≤ 100000 ∧ ∀ w ∈ l, w.s.size ≤ 281474976710656
theorem TX.ext {W W' : World} {ps : List SlC} {ll : List (List WdC)} (h : TX W ps ll) (hx : Ext W W') : TX W' ps ll :=
  ⟨h.1, fun i s l h1 h2 => ⟨(h.2 i s l h1 h2).1.ext hx, (h.2 i s l h1 h2).2⟩⟩
/-- The citations of some words. -/
def scanW (l : List WdC) : List Ct := l.filterMap fun w => if (parseP w.s.data.toList).2 = 0 then some (parseP w.s.data.toList).1 else none
def scanP (ll : List (List WdC)) : List Ct := ll.flatMap scanW
theorem scanW_len (l : List WdC) : (scanW l).length ≤ l.length := List.length_filterMap_le _ _
theorem scanW_step (l : List WdC) (k : Nat) (w : WdC) (h : l[k]? = some w) : scanW (l.take (k + 1)) = scanW (l.take k) ++ (if (parseP w.s.data.toList).2 = 0 then [(parseP w.s.data.toList).1] else []) := by
  have e : l.take (k + 1) = l.take k ++ [w] := by rw [List.take_add_one, h]; rfl
  rw [e]; unfold scanW; rw [List.filterMap_append]
  congr 1
  simp only [List.filterMap_cons, List.filterMap_nil]
  split <;> simp_all
theorem scanP_step (ll : List (List WdC)) (i : Nat) (l : List WdC) (h : ll[i]? = some l) : scanP (ll.take (i + 1)) = scanP (ll.take i) ++ scanW l := by
  have e : ll.take (i + 1) = ll.take i ++ [l] := by rw [List.take_add_one, h]; rfl
  rw [e]; unfold scanP; rw [List.flatMap_append]; simp
theorem ap47 {w : World} {base : Nat} {v : Value} {l : List Ct} (h : OL ccfC 4 w base 69 v l) {A : Option Addr} {m : Nat} {l' : List Ct} (hs : SL ccfC 4 w A m l') (c : Nat) (hm : l.length + m ≤ 100000000) (hbase : base ≤ w.heap.size) :
    ∃ A' c' w', (Builtin.append_ #[38, 38] 38 #[v, .slice A m c]).run Tryz.prog w = .ok (.slice A' (l.length + m) c') w' ∧ OL ccfC 4 w' base 69 (.slice A' (l.length + m) c') (l ++ l') ∧ (∀ B, B ≤ base → Below B w w') ∧
      (∀ k, k < w.heap.size → (∀ a, v ≠ .slice (some ⟨k, 0, none⟩) l.length a) → w'.heap[k]? = w.heap[k]?) :=
  OL.append ccf_lenC ccf_oneC (by omega) Tryz.underlying38 info25 rfl (by omega) h hs c hm hbase
def ScanPost (W : World) (l : List Ct) (e : Ending) (W' : World) : Prop := ∃ A c, e = .returned (.slice A l.length c) ∧ SL ccfC 4 W' A l.length l ∧ Ext W W'
def OutRel (W : World) (ll : List (List WdC)) (n : Nat) (s3 s17 : Value) (w' : World) : Prop :=
  ∃ i A c, i ≤ n ∧ s17 = .int .i64 (i : Nat) ∧ s3 = .slice A (scanP (ll.take i)).length c ∧ OL ccfC 4 w' W.heap.size 69 s3 (scanP (ll.take i)) ∧ Ext W w'
def InRel (W : World) (out : List Ct) (l : List WdC) (n : Nat) (s3 s23 : Value) (w' : World) : Prop :=
  ∃ k A c, k ≤ n ∧ s23 = .int .i64 (k : Nat) ∧ s3 = .slice A (out.length + (scanW (l.take k)).length) c ∧ OL ccfC 4 w' W.heap.size 69 s3 (out ++ scanW (l.take k)) ∧ Ext W w'
def toMC (n : Nat) (v : Value) : Nat := match v with | .int _ z => n - z.toNat | _ => 0
theorem app47_one (X : World) {base : Nat} {v : Value} {l : List Ct} (ho : OL ccfC 4 X base 69 v l) (c : Ct) (b : Nat) (hb : b = X.heap.size) (hm : l.length ≤ 10000000) (hbase : base ≤ X.heap.size) :
    ∃ A' c' w', (Builtin.append_ #[38, 38] 38 #[v, .slice (some ⟨b, 0, none⟩) 1 1]).run Tryz.prog (X.alloc (.cells #[.int .i64 c.br, .int .i64 c.nu, .int .i64 c.su, .int .i64 c.li] 69)) = .ok (.slice A' (l.length + 1) c') w' ∧ OL ccfC 4 w' base 69 (.slice A' (l.length + 1) c') (l ++ [c]) ∧ Below base X w' := by
  subst hb
  obtain ⟨A', c', w', h1, h2, h3, _⟩ := ap47 (ho.ext ((Ext.refl X).alloc _)) (SL.one (cf := ccfC) (sz := 4) X c #[.int .i64 c.br, .int .i64 c.nu, .int .i64 c.su, .int .i64 c.li] rfl 69) 1 (by omega) (by simp; omega)
  exact ⟨A', c', w', h1, h2, Below.trans (Below.mono ((Ext.refl X).alloc _) hbase) (h3 base (Nat.le_refl _))⟩
set_option maxHeartbeats 4000000 in
set_option maxRecDepth 100000 in
theorem scan_any (W : World) (A1 A2 : Option Addr) (c1 c2 : Nat) (l1 l2 : List SlC) (ll : List (List WdC)) (h1 : SL slcC 1 W A1 l1.length l1) (h2 : SL slcC 1 W A2 l2.length l2) (hl1 : l1.length ≤ 10000) (hl2 : l2.length ≤ 10000)
    (hT : TX W (l1 ++ l2) ll) (hout : (scanP ll).length ≤ 1000000) (hE : Env W) :
    Calls Tryz.prog 94 #[.agg #[.slice A1 l1.length c1, .slice A2 l2.length c2]] W (ScanPost W (scanP ll)) := by
  have HT := Lib.hid hT
  have HE := Lib.hid hE
  have HO := Lib.hid hout
  have H1 := Lib.hid h1
  have H2 := Lib.hid h2
  have HL1 := Lib.hid hl1
  have HL2 := Lib.hid hl2
  clear h1 h2 hl1 hl2 hT hout hE
  go_enter Tryz.func94, Tryz.ntmps94
  go_wp2_with (first | (go_at_call 72; refine (concat_any _ _ A1 A2 c1 c2 l1 l2 (H1.out.ext (by repeat (first | exact Ext.refl _ | refine Ext.alloc ?_ _))) (H2.out.ext (by repeat (first | exact Ext.refl _ | refine Ext.alloc ?_ _))) HL1.out HL2.out ?_ ?_ ?_).mono ?_; (go_simp); (go_simp); (go_simp); rintro e w1 ⟨A, c, rfl, hs, hx⟩))
  have HS := Lib.hid hs
  have hxw : Ext W w1 := by
    refine Ext.trans ?_ hx
    repeat (first | exact Ext.refl _ | refine Ext.alloc ?_ _)
  have HXW := Lib.hid hxw
  clear hs hx
  have HTX := Lib.hid (HT.out.ext hxw)
  clear hxw
  go_loopw [3, 17] (fun s3 s17 w' => OutRel w1 ll (l1.length + l2.length) s3 s17 w') (fun _ s17 _ => toMC (l1.length + l2.length) s17)
  case atStart => exact ⟨0, none, 0, by omega, rfl, rfl, OL.nil _ _ _, Ext.refl _⟩
  case round =>
    obtain ⟨i, A3, c3, hi, rfl, rfl, ho, hxr⟩ := hrel
    have HOL := Lib.hid ho
    have HXR := Lib.hid hxr
    clear ho hxr
    by_cases hin : i < l1.length + l2.length
    · obtain ⟨b, off, s, rfl, hb, hps, _, hcs⟩ := SL.at (HS.out.ext HXR.out) (k := i) (by simpa using hin)
      obtain ⟨l, hll⟩ : ∃ l, ll[i]? = some l := ⟨_, List.getElem?_eq_getElem (by have := HT.out.1; simp at this; omega)⟩
      obtain ⟨hSw, hlen, hsz⟩ := HTX.out.2 i s l hps hll
      have hc0 := hcs 0 s.val rfl
      rw [Nat.mul_one, Nat.add_zero] at hc0
      obtain ⟨sA, sn, sc⟩ := s
      have HSW := Lib.hid hSw
      have HSZ := Lib.hid hsz
      have HST := Lib.hid (scanP_step ll i l hll)
      have hsn : sn = l.length := hSw.1
      have HSN := Lib.hid hsn
      have hsn2 : sn ≤ 100000 := by omega
      simp only [SlC.val] at hc0
      have hsum : (scanP (ll.take i)).length ≤ 1000000 := by
        refine Nat.le_trans ?_ HO.out
        have e : scanP ll = scanP (ll.take i) ++ scanP (ll.drop i) := by unfold scanP; rw [← List.flatMap_append, List.take_append_drop]
        rw [e, List.length_append]; omega
      have hi3 : (i : Int) ≤ 20000 := by have := HL1.out; have := HL2.out; omega
      generalize scanP (ll.take i) = out at *
      clear hcs hps hll hSw hlen hsz hsn
      have hi2 : (i : Int) < (l1.length : Int) + (l2.length : Int) := by omega
      go_wp2_with fail
      go_loopw [3, 23] (fun s3 s23 w' => InRel w1 out l sn s3 s23 w') (fun _ s23 _ => toMC sn s23)
      case atStart => exact ⟨0, A3, c3, by omega, rfl, by simp [scanW], by simpa [scanW] using HOL.out, HXR.out⟩
      case round =>
        obtain ⟨k, A4, c4, hk, rfl, rfl, ho4, hxr4⟩ := hrel
        have HOL4 := Lib.hid ho4
        have HXR4 := Lib.hid hxr4
        clear ho4 hxr4
        by_cases hkn : k < sn
        · obtain ⟨b2, off2, wd, rfl, hb2, hwk, hwm, hwc⟩ := SL.at (HSW.out.ext (HXR4.out)) hkn
          have hwsz := HSZ.out wd hwm
          have d0 := hwc 0 (.string wd.s) rfl
          have d1 := hwc 1 (.string wd.key) rfl
          have d2 := hwc 2 (.int .i64 wd.tb) rfl
          have d3 := hwc 3 (.int .i64 wd.nt) rfl
          rw [Nat.add_zero] at d0
          have hstep := scanW_step l k wd hwk
          have hEnv : ∀ X, Ext wr X → Env X := fun X hX => HE.out.ext ((HXW.out.trans HXR4.out).trans hX)
          have hk2 : (k : Int) < (sn : Int) := by omega
          have hk3 : (k : Int) ≤ 100000 := by omega
          have hlk : (scanW (l.take k)).length ≤ 100000 := Nat.le_trans (scanW_len _) (by rw [List.length_take]; omega)
          rcases parse_cases wd.s.data.toList with (hp | hp) | ⟨c, hp, hcb⟩
          · have HP := Lib.hid (show ∀ X, Ext wr X → Calls Tryz.prog 49 #[.string wd.s] X (fun e X' => e = .returned (.tuple #[.agg #[.int .i64 0, .int .i64 0, .int .i64 0, .int .i64 0], .int .i64 7]) ∧ Ext X X') from fun X hX => by
              have := cparse_any wd.s X hwsz (hEnv X hX); rw [hp] at this; exact this)
            have HSTEP := Lib.hid (show scanW (l.take (k + 1)) = scanW (l.take k) by rw [hstep, hp]; simp)
            clear hstep hp hEnv hwc hwm hwk hwsz
            go_wp2_with (first | (go_at_call 49; refine (HP.out _ ?_).mono ?_; exact (Ext.refl _).alloc _; rintro e w4 ⟨rfl, hx4⟩))
            exact ⟨⟨k + 1, A4, c4, by omega, rfl, by rw [HSTEP.out], by rw [HSTEP.out]; exact HOL4.out.ext ((((Ext.refl _).alloc _).trans hx4).alloc _), HXR4.out.trans ((((Ext.refl _).alloc _).trans hx4).alloc _)⟩, by simp [toMC]; omega⟩
          · have HP := Lib.hid (show ∀ X, Ext wr X → Calls Tryz.prog 49 #[.string wd.s] X (fun e X' => e = .returned (.tuple #[.agg #[.int .i64 0, .int .i64 0, .int .i64 0, .int .i64 0], .int .i64 5]) ∧ Ext X X') from fun X hX => by
              have := cparse_any wd.s X hwsz (hEnv X hX); rw [hp] at this; exact this)
            have HSTEP := Lib.hid (show scanW (l.take (k + 1)) = scanW (l.take k) by rw [hstep, hp]; simp)
            clear hstep hp hEnv hwc hwm hwk hwsz
            go_wp2_with (first | (go_at_call 49; refine (HP.out _ ?_).mono ?_; exact (Ext.refl _).alloc _; rintro e w4 ⟨rfl, hx4⟩))
            exact ⟨⟨k + 1, A4, c4, by omega, rfl, by rw [HSTEP.out], by rw [HSTEP.out]; exact HOL4.out.ext ((((Ext.refl _).alloc _).trans hx4).alloc _), HXR4.out.trans ((((Ext.refl _).alloc _).trans hx4).alloc _)⟩, by simp [toMC]; omega⟩
          · have HP := Lib.hid (show ∀ X, Ext wr X → Calls Tryz.prog 49 #[.string wd.s] X (fun e X' => e = .returned (.tuple #[.agg #[.int .i64 c.br, .int .i64 c.nu, .int .i64 c.su, .int .i64 c.li], .int .i64 0]) ∧ Ext X X') from fun X hX => by
              have := cparse_any wd.s X hwsz (hEnv X hX); rw [hp] at this; exact this)
            have HSTEP := Lib.hid (show scanW (l.take (k + 1)) = scanW (l.take k) ++ [c] by rw [hstep, hp]; simp)
            have hli := (citB_cases hcb).2.2.1
            have hli2 : (c.li == 0) = false := by simpa using (show ¬ c.li = 0 by omega)
            clear hstep hp hEnv hwc hwm hwk hwsz hcb
            go_upto_region 10 with (first | (go_at_call 49; refine (HP.out _ ?_).mono ?_; exact (Ext.refl _).alloc _; rintro e w4 ⟨rfl, hx4⟩))
            have hle4 : w1.heap.size ≤ w4.heap.size := Nat.le_trans HXR4.out.lt (Nat.le_trans (((Ext.refl _).alloc _).trans hx4).lt (Nat.le_refl _))
            obtain ⟨A5, c5, w5, hrun, ho5, hb5⟩ := app47_one (w4.alloc (.cells #[.int .i64 c.br, .int .i64 c.nu, .int .i64 c.su, .int .i64 c.li] 69)) (HOL4.out.ext ((((Ext.refl _).alloc _).trans hx4).alloc _)) c (w4.heap.size + 1) (by simp) (by rw [List.length_append]; omega) (by simp; omega)
            rw [List.length_append] at hrun ho5
            have HO5 := Lib.hid ho5
            have HB5 := Lib.hid hb5
            clear ho5 hb5
            go_wp2_with (first | (at_builtin; refine wpList_append_run (s := .tmp 40) (x := .tmp 42) hrun rfl rfl rfl rfl rfl ?_))
            refine ⟨⟨k + 1, A5, c5, by omega, rfl, by rw [HSTEP.out, List.length_append, List.length_singleton, Nat.add_assoc], by rw [HSTEP.out, ← List.append_assoc]; exact HO5.out, ?_⟩, by simp [toMC]; omega⟩
            exact Below.trans (HXR4.out.trans ((((Ext.refl _).alloc _).trans hx4).alloc _)) HB5.out
        · have hni : ¬ ((k : Int) < (sn : Int)) := by omega
          go_wp2_with fail
          have hkl : l.take k = l := List.take_of_length_le (by have := HSN.out; omega)
          refine ⟨⟨i + 1, A4, c4, by omega, rfl, by rw [HST.out, hkl, List.length_append], by rw [HST.out]; have := HOL4.out; rw [hkl] at this; rw [hkl]; exact this, HXR4.out⟩, by simp [toMC]; omega⟩
    · have hni : ¬ ((i : Int) < (l1.length : Int) + (l2.length : Int)) := by omega
      go_wp2_with fail
      go_ret
      have hall : ll.take i = ll := List.take_of_length_le (by have := HT.out.1; simp at this; omega)
      have hol := HOL.out
      rw [hall] at hol ⊢
      obtain ⟨A9, c9, e9, _, hs9⟩ := OL.form ccf_lenC hol
      injection e9 with e1 e2 e3
      subst e1 e3
      exact ⟨A3, c3, rfl, hs9, HXW.out.trans HXR.out⟩
end Go.Proofs.YtdbnddmncbjobaaGreatDoor

/- The contract of the law's 'lives': the examples of the chapter. -/
namespace Go.Proofs.YtdbnddmncbjobaaGreatDoor
open Go Go.RowKit

theorem ex1 : parseP [51, 47, 49, 50, 97, 47, 55] = (⟨3, 12, 1, 7⟩, 0) := by kernel_rfl
theorem ex2 : parseP [51, 47, 49, 50, 97] = (ct0, 7) := by kernel_rfl
theorem ex3 : parseP [48, 51, 47, 49, 50, 97, 47, 55] = (ct0, 7) := by kernel_rfl
theorem ex4 : parseP [51, 47, 49, 50, 97, 47, 48, 55] = (ct0, 7) := by kernel_rfl
theorem ex5 : parseP [51, 47, 48, 47, 55] = (ct0, 7) := by kernel_rfl
theorem ex6 : parseP [50, 53, 54, 47, 49, 50, 47, 55] = (ct0, 5) := by kernel_rfl
theorem ex7 : parseP [51, 47, 49, 50, 47, 48] = (ct0, 5) := by kernel_rfl
theorem ex8 : parseP [51, 47, 49, 50, 47, 49, 48, 49] = (ct0, 5) := by kernel_rfl
def exW : List WdC := [⟨⟨#[115, 101, 101]⟩, ⟨#[]⟩, 0, 0⟩, ⟨⟨#[48, 47, 49, 47, 50]⟩, ⟨#[]⟩, 0, 0⟩, ⟨⟨#[48, 47, 49, 47, 50, 44]⟩, ⟨#[]⟩, 0, 0⟩]
theorem ex9 : scanP [exW] = [⟨0, 1, 0, 2⟩] := by kernel_rfl
theorem exT : textPC ⟨3, 12, 1, 7⟩ = [51, 47, 49, 50, 97, 47, 55] := (text_parse ex1).1
theorem exZ : textPC ⟨3, 12, 1, 0⟩ = [] := by unfold textPC; rw [if_neg]; rw [citB_no (.inr (.inr (.inl (by decide))))]; simp
theorem SL.new {α : Type} {cf : α → List Value} {sz : Nat} (hcf : ∀ a, (cf a).length = sz) (w : World) (l : List α) (cs : Array Value) (hcs : cs.toList = gcells cf l) (t : TypeId) : SL cf sz (w.alloc (.cells cs t)) (some ⟨w.heap.size, 0, none⟩) l.length l := by
  refine ⟨rfl, fun _ => ⟨w.heap.size, 0, rfl, by simp, fun i a hi j u hu => ?_⟩⟩
  have hj : j < sz := by rw [← hcf a]; exact (List.getElem?_eq_some_iff.1 hu).1
  rw [cell_of_row _ w.heap.size _ _ t (0, 0) (heap_alloc_new w _)]
  rw [← gcells_at hcf l i a hi j hj, ← hcs] at hu
  simpa using hu
theorem scan_ex (X : World) (hE : Env X) : Calls Tryz.prog 94 #[.agg #[.slice (some ⟨X.heap.size + 1, 0, none⟩) 1 1, .slice none 0 0]]
    ((X.alloc (.cells #[.string ⟨#[115, 101, 101]⟩, .string ⟨#[]⟩, .int .i64 0, .int .i64 0, .string ⟨#[48, 47, 49, 47, 50]⟩, .string ⟨#[]⟩, .int .i64 0, .int .i64 0, .string ⟨#[48, 47, 49, 47, 50, 44]⟩, .string ⟨#[]⟩, .int .i64 0, .int .i64 0] 60)).alloc (.cells #[.slice (some ⟨X.heap.size, 0, none⟩) 3 3] 54)) (ScanPost X [⟨0, 1, 0, 2⟩]) := by
  have h1 := SL.new (cf := wcfC) wcf_lenC X exW #[.string ⟨#[115, 101, 101]⟩, .string ⟨#[]⟩, .int .i64 0, .int .i64 0, .string ⟨#[48, 47, 49, 47, 50]⟩, .string ⟨#[]⟩, .int .i64 0, .int .i64 0, .string ⟨#[48, 47, 49, 47, 50, 44]⟩, .string ⟨#[]⟩, .int .i64 0, .int .i64 0] rfl 60
  have h2 := SL.one (cf := slcC) (sz := 1) (X.alloc (.cells #[.string ⟨#[115, 101, 101]⟩, .string ⟨#[]⟩, .int .i64 0, .int .i64 0, .string ⟨#[48, 47, 49, 47, 50]⟩, .string ⟨#[]⟩, .int .i64 0, .int .i64 0, .string ⟨#[48, 47, 49, 47, 50, 44]⟩, .string ⟨#[]⟩, .int .i64 0, .int .i64 0] 60)) ⟨some ⟨X.heap.size, 0, none⟩, 3, 3⟩ #[.slice (some ⟨X.heap.size, 0, none⟩) 3 3] rfl 54
  rw [World.size_alloc] at h2
  have hx : Ext X ((X.alloc (.cells #[.string ⟨#[115, 101, 101]⟩, .string ⟨#[]⟩, .int .i64 0, .int .i64 0, .string ⟨#[48, 47, 49, 47, 50]⟩, .string ⟨#[]⟩, .int .i64 0, .int .i64 0, .string ⟨#[48, 47, 49, 47, 50, 44]⟩, .string ⟨#[]⟩, .int .i64 0, .int .i64 0] 60)).alloc (.cells #[.slice (some ⟨X.heap.size, 0, none⟩) 3 3] 54)) := ((Ext.refl X).alloc _).alloc _
  have := scan_any _ (some ⟨X.heap.size + 1, 0, none⟩) none 1 0 [⟨some ⟨X.heap.size, 0, none⟩, 3, 3⟩] [] [exW] h2 (SL.nil _) (by simp) (by simp) ⟨rfl, fun i s l hi hl => by
    obtain rfl : i = 0 := by
      have := (List.getElem?_eq_some_iff.1 hi).1
      simp at this; exact this
    obtain rfl : (⟨some ⟨X.heap.size, 0, none⟩, 3, 3⟩ : SlC) = s := by simpa using hi
    obtain rfl : exW = l := by simpa using hl
    refine ⟨h1.ext ((Ext.refl _).alloc _), by simp [exW], fun w hw => ?_⟩
    simp only [exW, List.mem_cons, List.not_mem_nil, or_false] at hw
    rcases hw with rfl | rfl | rfl <;> decide⟩ (by rw [ex9]; simp) (hE.ext hx)
  rw [ex9] at this
  refine this.mono ?_
  rintro e w' ⟨A, c, rfl, hs, hx2⟩
  exact ⟨A, c, rfl, hs, hx.trans hx2⟩
set_option maxHeartbeats 1000000 in
set_option maxRecDepth 100000 in
theorem lives_any (w : World) (hE : Env w) : Calls Tryz.prog 47 #[] w (BoolPost true w) := by
  have HE := Lib.hid (fun X (hX : Ext w X) => hE.ext hX)
  have HP := Lib.hid (show ∀ X, Ext w X → Calls Tryz.prog 49 #[.string ⟨#[51, 47, 49, 50, 97, 47, 55]⟩] X (fun e X' => e = .returned (.tuple #[.agg #[.int .i64 3, .int .i64 12, .int .i64 1, .int .i64 7], .int .i64 0]) ∧ Ext X X') from fun X hX => by
    have := cparse_any ⟨#[51, 47, 49, 50, 97, 47, 55]⟩ X (by decide) (HE.out X hX)
    rw [show parseP ((⟨#[51, 47, 49, 50, 97, 47, 55]⟩ : ByteArray).data.toList) = (⟨3, 12, 1, 7⟩, 0) from ex1] at this; exact this)
  have HT := Lib.hid (show ∀ X, Ext w X → Calls Tryz.prog 50 #[.agg #[.int .i64 3, .int .i64 12, .int .i64 1, .int .i64 7]] X (fun e X' => e = .returned (.string ⟨#[51, 47, 49, 50, 97, 47, 55]⟩) ∧ Ext X X') from fun X hX => by
    have := ctext_any ⟨3, 12, 1, 7⟩ X (HE.out X hX).tab
    rw [exT] at this; exact this)
  have HZ := Lib.hid (show ∀ X, Ext w X → Calls Tryz.prog 50 #[.agg #[.int .i64 3, .int .i64 12, .int .i64 1, .int .i64 0]] X (fun e X' => e = .returned (.string ⟨#[]⟩) ∧ Ext X X') from fun X hX => by
    have := ctext_any ⟨3, 12, 1, 0⟩ X (HE.out X hX).tab
    rw [exZ] at this; exact this)
  have HF := Lib.hid (fun (s : ByteArray) (er : Int) (hp : parseP s.data.toList = (ct0, er)) (hs : s.size ≤ 281474976710656) X (hX : Ext w X) => fails_any s er X hs (HE.out X hX) hp)
  clear hE
  go_enter Tryz.func47, Tryz.ntmps47
  go_upto_region 5 with (first
    | (go_at_call 49; refine (HP.out _ ?_).mono ?_; (repeat (first | exact Ext.refl _ | refine Ext.alloc ?_ _)); rintro e w1 ⟨rfl, hx1⟩))
  have hx2 : Ext w (w1.alloc (.cells #[.int .i64 3, .int .i64 12, .int .i64 1, .int .i64 7] 69)) := by
    refine Ext.alloc (Ext.trans ?_ hx1) _
    repeat (first | exact Ext.refl _ | refine Ext.alloc ?_ _)
  have hs0 := scan_ex _ (HE.out _ hx2)
  simp only [World.size_alloc] at hs0
  have HS := Lib.hid hs0
  clear hs0
  have hd : w.heap.size + 1 < w1.heap.size := by have := hx1.lt; simp at this; omega
  have hd0 : w.heap.size < w1.heap.size := by omega
  obtain ⟨q1, _⟩ := hx1.cells
  have e0 : ∀ i, w1.cell? ⟨w.heap.size, i, none⟩ = _ := fun i => q1 w.heap.size i (by simp; omega)
  have e1 : ∀ i, w1.cell? ⟨w.heap.size + 1, i, none⟩ = _ := fun i => q1 (w.heap.size + 1) i (by simp)
  have a0 : w1.cell? ⟨w.heap.size, 0, none⟩ = some (.int .i64 3) := (e0 0).trans (by go_simp)
  have a1 : w1.cell? ⟨w.heap.size, 1, none⟩ = some (.int .i64 12) := (e0 1).trans (by go_simp)
  have a2 : w1.cell? ⟨w.heap.size, 2, none⟩ = some (.int .i64 1) := (e0 2).trans (by go_simp)
  have a3 : w1.cell? ⟨w.heap.size, 3, none⟩ = some (.int .i64 7) := (e0 3).trans (by go_simp)
  have b0 : w1.cell? ⟨w.heap.size + 1, 0, none⟩ = some (.int .i64 3) := (e1 0).trans (by go_simp)
  have b1 : w1.cell? ⟨w.heap.size + 1, 1, none⟩ = some (.int .i64 12) := (e1 1).trans (by go_simp)
  have b2 : w1.cell? ⟨w.heap.size + 1, 2, none⟩ = some (.int .i64 1) := (e1 2).trans (by go_simp)
  have b3 : w1.cell? ⟨w.heap.size + 1, 3, none⟩ = some (.int .i64 0) := (e1 3).trans (by go_simp)
  clear q1 e0 e1 hx1
  have HX2 := Lib.hid hx2
  clear hx2
  go_upto_region 6 with (first
    | (go_at_call 94; refine HS.out.mono ?_; rintro e w2 ⟨A, c, rfl, hs, hx3⟩))
  have hx4 := HX2.out.trans hx3
  obtain ⟨b, off, ct, rfl, hb, hct, _, hcc⟩ := SL.at hs (k := 0) (by simp)
  obtain rfl : (⟨0, 1, 0, 2⟩ : Ct) = ct := by simpa using hct
  obtain ⟨q3, _⟩ := hx3.cells
  have lt0 : w.heap.size < (w1.alloc (.cells #[.int .i64 3, .int .i64 12, .int .i64 1, .int .i64 7] 69)).heap.size := by simp; omega
  have lt1 : w.heap.size + 1 < (w1.alloc (.cells #[.int .i64 3, .int .i64 12, .int .i64 1, .int .i64 7] 69)).heap.size := by simp; omega
  have lt2 : w1.heap.size < (w1.alloc (.cells #[.int .i64 3, .int .i64 12, .int .i64 1, .int .i64 7] 69)).heap.size := by simp
  have m0 : w2.cell? ⟨w.heap.size, 0, none⟩ = some (.int .i64 3) := (q3 _ _ lt0).trans ((World.cell?_alloc_lt _ _ _ hd0).trans a0)
  have m1 : w2.cell? ⟨w.heap.size, 1, none⟩ = some (.int .i64 12) := (q3 _ _ lt0).trans ((World.cell?_alloc_lt _ _ _ hd0).trans a1)
  have m2 : w2.cell? ⟨w.heap.size, 2, none⟩ = some (.int .i64 1) := (q3 _ _ lt0).trans ((World.cell?_alloc_lt _ _ _ hd0).trans a2)
  have m3 : w2.cell? ⟨w.heap.size, 3, none⟩ = some (.int .i64 7) := (q3 _ _ lt0).trans ((World.cell?_alloc_lt _ _ _ hd0).trans a3)
  have n0 : w2.cell? ⟨w.heap.size + 1, 0, none⟩ = some (.int .i64 3) := (q3 _ _ lt1).trans ((World.cell?_alloc_lt _ _ _ hd).trans b0)
  have n1 : w2.cell? ⟨w.heap.size + 1, 1, none⟩ = some (.int .i64 12) := (q3 _ _ lt1).trans ((World.cell?_alloc_lt _ _ _ hd).trans b1)
  have n2 : w2.cell? ⟨w.heap.size + 1, 2, none⟩ = some (.int .i64 1) := (q3 _ _ lt1).trans ((World.cell?_alloc_lt _ _ _ hd).trans b2)
  have n3 : w2.cell? ⟨w.heap.size + 1, 3, none⟩ = some (.int .i64 0) := (q3 _ _ lt1).trans ((World.cell?_alloc_lt _ _ _ hd).trans b3)
  have k0 : w2.cell? ⟨w1.heap.size, 0, none⟩ = some (.int .i64 3) := (q3 _ _ lt2).trans (by go_simp)
  have k1 : w2.cell? ⟨w1.heap.size, 1, none⟩ = some (.int .i64 12) := (q3 _ _ lt2).trans (by go_simp)
  have k2 : w2.cell? ⟨w1.heap.size, 2, none⟩ = some (.int .i64 1) := (q3 _ _ lt2).trans (by go_simp)
  have k3 : w2.cell? ⟨w1.heap.size, 3, none⟩ = some (.int .i64 7) := (q3 _ _ lt2).trans (by go_simp)
  have hc0 := hcc 0 (.int .i64 0) rfl
  have hc1 := hcc 1 (.int .i64 1) rfl
  have hc2 := hcc 2 (.int .i64 0) rfl
  have hc3 := hcc 3 (.int .i64 2) rfl
  simp only [Nat.zero_mul, Nat.add_zero] at hc0 hc1 hc2 hc3
  have d1 : w.heap.size < w2.heap.size := Nat.lt_of_lt_of_le lt0 hx3.lt
  have d2 : w.heap.size + 1 < w2.heap.size := Nat.lt_of_lt_of_le lt1 hx3.lt
  have d3 : w1.heap.size < w2.heap.size := Nat.lt_of_lt_of_le lt2 hx3.lt
  have HX4 := Lib.hid hx4
  clear hx4 hx3 q3 lt0 lt1 lt2 hs hcc a0 a1 a2 a3 b0 b1 b2 b3 hct
  go_upto_region 8 with (first
    | (have hg := HX6; clear hg; go_at_call 50; refine (HZ.out _ HX6.out).mono ?_; rintro e w4 ⟨rfl, hx7⟩; have hx8 := HX5.out.trans hx7; obtain ⟨q8, _⟩ := hx8.cells; have r0 := (q8 _ 0 d1).trans m0; have r1 := (q8 _ 1 d1).trans m1; have r2 := (q8 _ 2 d1).trans m2; have r3 := (q8 _ 3 d1).trans m3; have t0 := (q8 _ 0 d3).trans k0; have t1 := (q8 _ 1 d3).trans k1; have t2 := (q8 _ 2 d3).trans k2; have t3 := (q8 _ 3 d3).trans k3; have HX8 := Lib.hid hx8; clear hx7 hx8 q8)
    | (go_at_call 50; refine (HT.out _ HX4.out).mono ?_; rintro e w3 ⟨rfl, hx5⟩; obtain ⟨q5, _⟩ := hx5.cells; have o0 := (q5 _ 0 d2).trans n0; have o1 := (q5 _ 1 d2).trans n1; have o2 := (q5 _ 2 d2).trans n2; have o3 := (q5 _ 3 d2).trans n3; have hx6 := HX4.out.trans hx5; have HX6 := Lib.hid hx6; have HX5 := Lib.hid hx5; clear hx5 hx6 q5))
  have hx9 := HX4.out.trans HX8.out
  have HX9 := Lib.hid hx9
  clear hx9
  have HQ := Lib.hid (fun X (hX : Ext w2 X) => (show X.cell? ⟨b, off, none⟩ = some (.int .i64 0) ∧ X.cell? ⟨b, off + 1, none⟩ = some (.int .i64 1) ∧ X.cell? ⟨b, off + 2, none⟩ = some (.int .i64 0) ∧ X.cell? ⟨b, off + 3, none⟩ = some (.int .i64 2) from by
    obtain ⟨q, _⟩ := hX.cells
    exact ⟨(q _ _ hb).trans hc0, (q _ _ hb).trans hc1, (q _ _ hb).trans hc2, (q _ _ hb).trans hc3⟩))
  clear hc0 hc1 hc2 hc3 o0 o1 o2 o3 r0 r1 r2 r3 t0 t1 t2 t3 m0 m1 m2 m3 n0 n1 n2 n3 k0 k1 k2 k3
  have F2 := Lib.hid (fun X hX => HF.out ⟨#[51, 47, 49, 50, 97]⟩ 7 ex2 (by decide) X hX)
  have F3 := Lib.hid (fun X hX => HF.out ⟨#[48, 51, 47, 49, 50, 97, 47, 55]⟩ 7 ex3 (by decide) X hX)
  have F4 := Lib.hid (fun X hX => HF.out ⟨#[51, 47, 49, 50, 97, 47, 48, 55]⟩ 7 ex4 (by decide) X hX)
  have F5 := Lib.hid (fun X hX => HF.out ⟨#[51, 47, 48, 47, 55]⟩ 7 ex5 (by decide) X hX)
  have F6 := Lib.hid (fun X hX => HF.out ⟨#[50, 53, 54, 47, 49, 50, 47, 55]⟩ 5 ex6 (by decide) X hX)
  have F7 := Lib.hid (fun X hX => HF.out ⟨#[51, 47, 49, 50, 47, 48]⟩ 5 ex7 (by decide) X hX)
  have F8 := Lib.hid (fun X hX => HF.out ⟨#[51, 47, 49, 50, 47, 49, 48, 49]⟩ 5 ex8 (by decide) X hX)
  clear HF
  go_upto_region 9 with (first
    | (have hg := HX13; clear hg; fail)
    | (have hg := HX12; clear hg; go_at_call 95; refine (F5.out _ HX12.out).mono ?_; rintro e w13 ⟨rfl, hx⟩; have hx13 := HX12.out.trans hx; have hy13 := HY12.out.trans hx; have HX13 := Lib.hid hx13; have HY13 := Lib.hid hy13; clear hx hx13 hy13)
    | (have hg := HX11; clear hg; go_at_call 95; refine (F4.out _ HX11.out).mono ?_; rintro e w12 ⟨rfl, hx⟩; have hx12 := HX11.out.trans hx; have hy12 := HY11.out.trans hx; have HX12 := Lib.hid hx12; have HY12 := Lib.hid hy12; clear hx hx12 hy12)
    | (have hg := HX10; clear hg; go_at_call 95; refine (F3.out _ HX10.out).mono ?_; rintro e w11 ⟨rfl, hx⟩; have hx11 := HX10.out.trans hx; have hy11 := HY10.out.trans hx; have HX11 := Lib.hid hx11; have HY11 := Lib.hid hy11; clear hx hx11 hy11)
    | (go_at_call 95; refine (F2.out _ HX9.out).mono ?_; rintro e w10 ⟨rfl, hx⟩; have hx10 := HX9.out.trans hx; have hy10 := HX8.out.trans hx; have HX10 := Lib.hid hx10; have HY10 := Lib.hid hy10; clear hx hx10 hy10))
  go_wp2_with (first
    | (have hg := HX15; clear hg; go_at_call 95; refine (F8.out _ HX15.out).mono ?_; rintro e w16 ⟨rfl, hx⟩; have hx16 := HX15.out.trans hx; obtain ⟨z0, z1, z2, z3⟩ := HQ.out _ (HY15.out.trans hx); have HX16 := Lib.hid hx16; clear hx hx16)
    | (have hg := HX14; clear hg; go_at_call 95; refine (F7.out _ HX14.out).mono ?_; rintro e w15 ⟨rfl, hx⟩; have hx15 := HX14.out.trans hx; have hy15 := HY14.out.trans hx; have HX15 := Lib.hid hx15; have HY15 := Lib.hid hy15; clear hx hx15 hy15)
    | (go_at_call 95; refine (F6.out _ HX13.out).mono ?_; rintro e w14 ⟨rfl, hx⟩; have hx14 := HX13.out.trans hx; have hy14 := HY13.out.trans hx; have HX14 := Lib.hid hx14; have HY14 := Lib.hid hy14; clear hx hx14 hy14))
  go_ret
  exact ⟨rfl, HX16.out⟩
end Go.Proofs.YtdbnddmncbjobaaGreatDoor

/- The law CiteLeads, with what the listed variables give. -/
namespace Go.Proofs.YtdbnddmncbjobaaGreatDoor
open Go Go.RowKit

theorem leads_all (A : Option Addr) (c : Nat) (l : List Int) (a v wd br : Int) (w : World) (hl : IL w A c l) (hll : l.length ≤ 9223372036854775807)
    (ha : -9223372036854775808 ≤ a ∧ a ≤ 9223372036854775807) (hv : -9223372036854775808 ≤ v ∧ v ≤ 9223372036854775807) (hw : -9223372036854775808 ≤ wd ∧ wd ≤ 9223372036854775807) (hbr : -9223372036854775808 ≤ br ∧ br ≤ 9223372036854775807) (hE : Env w) (hL : EnvW w) :
    Calls Tryz.prog 13 #[.slice A l.length c, .int .i64 a, .int .i64 v, .int .i64 wd, .int .i64 br] w (fun e w' => e = .returned (.bool true) ∧ Ext w w') :=
  leads_law A c l a v wd br w hE hL (fun X hX => lives_any X (hE.ext hX)) hl hll ha hv hw hbr
end Go.Proofs.YtdbnddmncbjobaaGreatDoor
