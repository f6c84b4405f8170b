/- slices.Compact of places: walked. -/
import Derived.Test.YtdbnddmncbjobaaGreatDoorMh
import Derived.BigQuiet
import Derived.Test.YtdbnddmncbjobaaGreatDoorMb
import Derived.Deep.RegionHeld3
import Derived.Test.YtdbnddmncbjobaaGreatDoorMf
import Derived.Test.YtdbnddmncbjobaaGreatDoorMd
import Derived.Test.YtdbnddmncbjobaaGreatDoorMg
import Derived.Deep.RegionLaw
import Derived.StillTailTactics
import Derived.Test.YtdbnddmncbjobaaGreatDoorMe
namespace Go.Proofs.YtdbnddmncbjobaaGreatDoor
open Go Go.RowKit
attribute [local go_sem] Oper.semAt_some

/-- Between two rounds of the outer loop. -/
def CoO (w : World) (xs : List Ct) (s3 : Value) (W : World) : Prop := ∃ k : Nat, k + 1 ≤ xs.length ∧ s3 = .int .i64 ((k + 1 : Nat) : Int) ∧ Pfx xs (k + 1) ∧ ∃ n, W = w.drewN n
/-- Between two rounds of the inner loop, which began at k0. -/
def CoN (w : World) (g N k0 : Nat) (xs : List Ct) (s3 s5 : Value) (W : World) : Prop := ∃ (m k : Nat) (R : List Ct), k0 + m + 1 ≤ xs.length ∧ s3 = .int .i64 (k : Int) ∧ s5 = .int .i64 ((m + 1 : Nat) : Int) ∧ CmI xs (k0 + m + 1) k R ∧ CRow W g N R ∧ w.grownBy W (some g)
set_option maxHeartbeats 1000000 in
theorem eqIn_ct (d : Nat) (x y : Ct) (w : World) : (Op.equalIn (d + 2 + 1) 69 (ctV x) (ctV y)).run Tryz.prog w = .ok (decide (x = y)) w := by
  obtain ⟨r, n, s, l⟩ := x
  obtain ⟨r', n', s', l'⟩ := y
  unfold ctV
  rw [Op.equalIn]
  simp [go_sem]
  by_cases h1 : r = r' <;> by_cases h2 : n = n' <;> by_cases h3 : s = s' <;> by_cases h4 : l = l' <;> simp [h1, h2, h3, h4]
theorem eql_ct (x y : Ct) (w : World) : (binOp .eql 69 (ctV x) (ctV y)).run Tryz.prog w = .ok (.bool (decide (x = y))) w := by
  have h := eqIn_ct 9997 x y w
  unfold ctV at h ⊢
  simp only [binOp]
  simp [Op.equal, Op.maxDepth, h]
theorem neq_ct (x y : Ct) (w : World) : (binOp .neq 69 (ctV x) (ctV y)).run Tryz.prog w = .ok (.bool (!decide (x = y))) w := by
  have h := eqIn_ct 9997 x y w
  unfold ctV at h ⊢
  simp only [binOp]
  simp [Op.equal, Op.maxDepth, h]
theorem eql_ne {x y : Ct} (h : x ≠ y) (W : World) : (binOp .eql 69 (.agg #[.int .i64 x.br, .int .i64 x.nu, .int .i64 x.su, .int .i64 x.li]) (.agg #[.int .i64 y.br, .int .i64 y.nu, .int .i64 y.su, .int .i64 y.li])).run Tryz.prog W = .ok (.bool false) W := by
  have := eql_ct x y W; rw [decide_eq_false h] at this; exact this
set_option maxHeartbeats 4000000 in
set_option maxRecDepth 100000 in
theorem compact_any (w : World) (g N cap : Nat) (xs : List Ct) (hr : CRow w g N xs) (hn : 2 ≤ xs.length) (hl : xs.length ≤ 100000000) (hc : xs.length ≤ cap) :
    Calls Tryz.prog 113 #[.slice (some ⟨g, 0, none⟩) xs.length cap] w fun e w' => e = .returned (.slice (some ⟨g, 0, none⟩) (dedP xs).length cap) ∧ CRow w' g N (dedP xs) ∧ (dedP xs).length ≤ xs.length ∧ w.grownBy w' (some g) := by
  have HR := Lib.hid hr
  clear hr
  obtain ⟨n, hn'⟩ : ∃ n, xs.length = n := ⟨_, rfl⟩
  rw [hn'] at hn hl hc ⊢
  go_enter Tryz.func113, Tryz.ntmps113
  go_wp2_with fail
  go_loopw [3] (fun s3 W => CoO w xs s3 W) (fun s3 _ => toM n s3)
  case atStart => exact ⟨0, by omega, rfl, Pfx.one xs, 0, rfl⟩
  case round =>
    obtain ⟨k, hk, rfl, hp, q, rfl⟩ := hrel
    have HP := Lib.hid hp
    clear hp
    rw [hn'] at hk
    by_cases hlt : k + 1 < n
    case neg =>
      obtain rfl : n = k + 1 := by omega
      have hni : ¬ (((k + 1 : Nat) : Int) < ((k + 1 : Nat) : Int)) := by omega
      go_wp2_with fail
      go_ret
      have hd : dedP xs = xs := by have := HP.out; unfold Pfx at this; rwa [← hn', List.take_length] at this
      exact ⟨by rw [hd, hn']; rfl, by rw [hd]; exact HR.out.drew, by rw [hd, hn']; exact Nat.le_refl _, ⟨rfl, rfl, rfl, Nat.le_refl _, fun _ _ _ => rfl⟩⟩
    have hI : ((k + 1 : Nat) : Int) < (n : Int) := by omega
    obtain ⟨a, ha⟩ : ∃ a, xs[k]? = some a := ⟨_, List.getElem?_eq_getElem (by omega)⟩
    obtain ⟨b, hb⟩ : ∃ b, xs[k + 1]? = some b := ⟨_, List.getElem?_eq_getElem (by omega)⟩
    obtain ⟨a0, a1, a2, a3⟩ := HR.out.at ha
    obtain ⟨b0, b1, b2, b3⟩ := HR.out.at hb
    have i1 : (k : Int) + 1 < (n : Int) := by omega
    have i2 : (0 : Int) ≤ (k : Int) + 1 := by omega
    have i3 : ((k : Int) + 1).toNat = k + 1 := by omega
    have i4 : (k : Int) < (n : Int) := by omega
    have i5 : IntKind.i64.wrap (k : Int) = (k : Int) := by simp [IntKind.wrap, IntKind.bits, IntKind.signed]; omega
    have HA := Lib.hid ha
    have HB := Lib.hid hb
    clear ha hb
    by_cases hab : b = a
    · subst hab
      have d : ∀ W, (binOp .eql 69 (.agg #[.int .i64 b.br, .int .i64 b.nu, .int .i64 b.su, .int .i64 b.li]) (.agg #[.int .i64 b.br, .int .i64 b.nu, .int .i64 b.su, .int .i64 b.li])).run Tryz.prog W = .ok (.bool true) W := fun W => by
        have := eql_ct b b W; rw [decide_eq_true rfl] at this; exact this
      have HS := Lib.hid (CmI.start HP.out HA.out HB.out)
      go_upto_region 6 with (fail)
      go_quiet (fail)
      clear a0 a1 a2 a3 b0 b1 b2 b3 d
      go_wp2_with fail
      go_loopw [3, 5] (fun s3 s5 W => CoN w g N (k + 1) xs s3 s5 W) (fun _ s5 _ => toM (n - (k + 1)) s5)
      case atStart => exact ⟨0, k + 1, xs, by omega, by go_num, rfl, HS.out, HR.out.drew, ⟨rfl, rfl, rfl, Nat.le_refl _, fun _ _ _ => rfl⟩⟩
      case round =>
        obtain ⟨m, kk, R, hm, rfl, rfl, hI, hW, hG⟩ := hrel
        obtain ⟨n1, e1⟩ : ∃ n1, n - (k + 1) = n1 := ⟨_, rfl⟩
        obtain ⟨c1, e2⟩ : ∃ c1, cap - (k + 1) = c1 := ⟨_, rfl⟩
        rw [e1, e2]
        rw [hn'] at hm
        have hRl : R.length = n := by rw [hI.len, hn']
        have hkk := hI.lt
        have HI := Lib.hid hI
        have HW := Lib.hid hW
        have HG := Lib.hid hG
        have HRL := Lib.hid hRl
        have HGD := Lib.hid (fun q => (show w.grownBy (wr.drewN q) (some g) from ⟨HG.out.os, HG.out.tape, HG.out.output, HG.out.size, HG.out.block⟩))
        clear hI hW hG hRl
        by_cases hlt : m + 1 < n1
        case neg =>
          have hJ : ¬ ((m + 1 : Nat) : Int) < (n1 : Int) := by omega
          have j1 : ¬ (m : Int) + 1 < (n1 : Int) := by omega
          have hfin := HI.out.fin (by omega)
          have hk2 : kk < n := by omega
          have hdl : (dedP xs).length = kk := by rw [← hfin, List.length_take]; have := HRL.out; omega
          have HD := Lib.hid hdl
          have HFI := Lib.hid hfin
          have hcl : ∀ ty, (Builtin.clear_ #[38] ty #[.slice (some ⟨g, kk * 4, none⟩) (n - kk) (cap - kk)]).run Tryz.prog wr = .ok (.tuple #[]) (wr.setCells g (kk * 4) (Builtin.zeroCells (Value.agg #[.int .i64 0, .int .i64 0, .int .i64 0, .int .i64 0]).cells (n - kk)).toList) := fun ty =>
            run_clear_many wr 38 69 ty _ Tryz.underlying38 Tryz.zeroValue69 (by intro u hu; simp [Value.cells] at hu; rw [hu]; rfl) g (kk * 4) (n - kk) (cap - kk) (by omega) (fun j hj => by
              have hj4 : j < (n - kk) * 4 := hj
              have hjn : kk + j / 4 < R.length := by have := HRL.out; omega
              obtain ⟨c0, c1, c2, c3⟩ := HW.out.at (List.getElem?_eq_getElem hjn)
              have hm4 : j % 4 = 0 ∨ j % 4 = 1 ∨ j % 4 = 2 ∨ j % 4 = 3 := by omega
              rcases hm4 with h9 | h9 | h9 | h9
              · rw [show kk * 4 + j = (kk + j / 4) * 4 by omega, c0]; rfl
              · rw [show kk * 4 + j = (kk + j / 4) * 4 + 1 by omega, c1]; rfl
              · rw [show kk * 4 + j = (kk + j / 4) * 4 + 2 by omega, c2]; rfl
              · rw [show kk * 4 + j = (kk + j / 4) * 4 + 3 by omega, c3]; rfl) (fun j => HW.out.frozen j)
          generalize (Builtin.zeroCells (Value.agg #[.int .i64 0, .int .i64 0, .int .i64 0, .int .i64 0]).cells (n - kk)).toList = vs at hcl
          have HC := Lib.hid (HW.out.cut (k := kk) (by have := HRL.out; omega) vs)
          have t1 : (kk : Int) ≤ (n : Int) := by omega
          have t2 : (kk : Int) ≤ (cap : Int) := by omega
          clear hfin hdl
          go_wp2_with fail
          go_ret
          refine ⟨by rw [HD.out]; rfl, ?_, by rw [HD.out]; omega, HG.out.andThen HC.out.2 (fun _ hj => .inr hj)⟩
          have := HC.out.1
          rwa [HFI.out] at this
        have hJ : ((m + 1 : Nat) : Int) < (n1 : Int) := by omega
        have j1 : (m : Int) + 1 < (n1 : Int) := by omega
        have j2 : (0 : Int) ≤ (m : Int) + 1 := by omega
        have j3 : ((m : Int) + 1).toNat = m + 1 := by omega
        have j4 : (m : Int) < (n1 : Int) := by omega
        have j5 : IntKind.i64.wrap (m : Int) = (m : Int) := by simp [IntKind.wrap, IntKind.bits, IntKind.signed]; omega
        obtain ⟨x, hx⟩ : ∃ x, xs[k + 1 + m]? = some x := ⟨_, List.getElem?_eq_getElem (by omega)⟩
        obtain ⟨y, hy⟩ : ∃ y, xs[k + 1 + m + 1]? = some y := ⟨_, List.getElem?_eq_getElem (by omega)⟩
        obtain ⟨a0, a1, a2, a3⟩ := HW.out.at ((HI.out.rest (k + 1 + m) (by omega)).trans hx)
        obtain ⟨b0, b1, b2, b3⟩ := HW.out.at ((HI.out.rest (k + 1 + m + 1) (by omega)).trans hy)
        rw [show (k + 1 + m) * 4 = (k + 1) * 4 + m * 4 by omega] at a0 a1 a2 a3
        rw [show (k + 1 + m + 1) * 4 = (k + 1) * 4 + (m + 1) * 4 by omega] at b0 b1 b2 b3
        have HX := Lib.hid hx
        have HY := Lib.hid hy
        clear hx hy
        by_cases hxy : y = x
        · subst hxy
          have d : ∀ W, (binOp .neq 69 (.agg #[.int .i64 y.br, .int .i64 y.nu, .int .i64 y.su, .int .i64 y.li]) (.agg #[.int .i64 y.br, .int .i64 y.nu, .int .i64 y.su, .int .i64 y.li])).run Tryz.prog W = .ok (.bool false) W := fun W => by
            have := neq_ct y y W; rw [decide_eq_true rfl] at this; exact this
          go_upto_region 11 with (fail)
          go_quiet (fail)
          go_wp2_with fail
          go_roundw
          case rel => exact ⟨m + 1, kk, R, by omega, rfl, by go_num, HI.out.same HX.out HY.out, HW.out.drew, ⟨HG.out.os, HG.out.tape, HG.out.output, HG.out.size, HG.out.block⟩⟩
          case measure => simp only [toM]; omega
        · have d : ∀ W, (binOp .neq 69 (.agg #[.int .i64 y.br, .int .i64 y.nu, .int .i64 y.su, .int .i64 y.li]) (.agg #[.int .i64 x.br, .int .i64 x.nu, .int .i64 x.su, .int .i64 x.li])).run Tryz.prog W = .ok (.bool true) W := fun W => by
            have := neq_ct y x W; rw [decide_eq_false hxy] at this; exact this
          have hk2 : kk < R.length := by have := HRL.out; omega
          obtain ⟨r, hr⟩ : ∃ r, R[kk]? = some r := ⟨_, List.getElem?_eq_getElem hk2⟩
          obtain ⟨r0, r1, r2, r3⟩ := HW.out.at hr
          have f0 := HW.out.frozen (kk * 4)
          have f1 := HW.out.frozen (kk * 4 + 1)
          have f2 := HW.out.frozen (kk * 4 + 2)
          have f3 := HW.out.frozen (kk * 4 + 3)
          have t1 : (kk : Int) < (n : Int) := by have := HRL.out; omega
          have HN := Lib.hid (HI.out.new HX.out HY.out (Ne.symm hxy))
          have HST := Lib.hid (fun q => (CRow.set (HW.out.drew (n := q)) y hk2))
          clear hxy hr
          go_upto_region 11 with (fail)
          go_quiet (fail)
          go_wp2_with fail
          go_roundw
          case rel => exact ⟨m + 1, kk + 1, R.set kk y, by omega, by go_num, by go_num, HN.out, (HST.out _).1, (HGD.out _).andThen (HST.out _).2 (fun _ hj => .inr hj)⟩
          case measure => simp only [toM]; omega
    · have d := eql_ne hab
      have HN := Lib.hid (HP.out.next HA.out HB.out (Ne.symm hab))
      clear hab
      go_upto_region 6 with (fail)
      go_quiet (fail)
      trace_state
      go_wp2_with fail
      go_roundw
      case rel => exact ⟨k + 1, by omega, by go_num, HN.out, _, rfl⟩
      case measure => simp only [toM]; omega
theorem compact_one (w : World) (A : Option Addr) (c : Nat) : Calls Tryz.prog 113 #[.slice A 1 c] w fun e w' => e = .returned (.slice A 1 c) ∧ w = w' := by
  go_enter Tryz.func113, Tryz.ntmps113
  go_wp2_with fail
  go_ret
  exact ⟨rfl, rfl⟩
/-- slices.Compact at a row of the call's own. -/
theorem compact_own (w : World) (B : Nat) (v : Value) (xs : List Ct) (h : kCt.own 69 w B (fun _ => False) v xs) (hne : xs ≠ []) (hl : xs.length ≤ 100000000) :
    Calls Tryz.prog 113 #[v] w fun e w' => ∃ v', e = .returned v' ∧ v'.ownBlock = v.ownBlock ∧ kCt.own 69 w' B (fun _ => False) v' (dedP xs) ∧ w.grownBy w' v.ownBlock := by
  have hc := ct_cells h
  rcases hc.2 with ⟨_, h0⟩ | ⟨g, cap, cur, rfl, hbase, hb, h1, h2, h3, h4⟩
  · exact absurd (List.length_eq_zero_iff.1 h0) hne
  by_cases hn : 2 ≤ xs.length
  · refine (compact_any w g (cap * 4) cap xs ⟨cur, hb, h4, by omega, h3⟩ hn hl h1).mono ?_
    rintro e w' ⟨rfl, ⟨cur', hb', ht', hs', hz'⟩, hle, hg⟩
    refine ⟨_, rfl, rfl, cells_ct ⟨gcells_len (cf := ctCs) (sz := 4) (fun _ => rfl) _, .inr ⟨g, cap, cur', rfl, hbase, hb', by omega, h2, hz', ht'⟩⟩, hg⟩
  · have e1 : xs.length = 1 := by have := List.length_pos_iff.2 hne; omega
    obtain ⟨x, rfl⟩ : ∃ x, xs = [x] := List.length_eq_one_iff.1 e1
    refine (compact_one w (some ⟨g, 0, none⟩) cap).mono ?_
    rintro e w' ⟨rfl, rfl⟩
    exact ⟨_, rfl, rfl, h, ⟨rfl, rfl, rfl, Nat.le_refl _, fun _ _ _ => rfl⟩⟩
end Go.Proofs.YtdbnddmncbjobaaGreatDoor

/- The reference's SameCites: walked. -/
namespace Go.Proofs.YtdbnddmncbjobaaGreatDoor
open Go Go.RowKit
attribute [local go_sem] Oper.semAt_some

theorem ct_at {W : World} {P : Nat → Prop} {A : Option Addr} {n : Nat} {xs : List Ct} (h : kCt.row W P A n xs) {i : Nat} {x : Ct} (hi : xs[i]? = some x) :
    ∃ b off, A = some ⟨b, off, none⟩ ∧ b < W.heap.size ∧ P b ∧ W.cell? ⟨b, off + i * 4, none⟩ = some (.int .i64 x.br) ∧ W.cell? ⟨b, off + i * 4 + 1, none⟩ = some (.int .i64 x.nu) ∧ W.cell? ⟨b, off + i * 4 + 2, none⟩ = some (.int .i64 x.su) ∧ W.cell? ⟨b, off + i * 4 + 3, none⟩ = some (.int .i64 x.li) := by
  obtain ⟨b, off, cs, rfl, hb, hP, hrep, hc⟩ := Lay.row_at h hi
  rw [kCt_rep.1 hrep] at hc
  exact ⟨b, off, rfl, hb, hP, hc 0 _ rfl, hc 1 _ rfl, hc 2 _ rfl, hc 3 _ rfl⟩
theorem take_eq {α : Type} {xs ys : List α} {i : Nat} {x y : α} (h : xs.take i = ys.take i) (hx : xs[i]? = some x) (hy : ys[i]? = some y) (e : x = y) : xs.take (i + 1) = ys.take (i + 1) := by
  rw [List.take_add_one, List.take_add_one, h, hx, hy, e]
def SaR (w : World) (n : Nat) (xs ys : List Ct) (s5 : Value) (W : World) : Prop := ∃ i : Nat, i ≤ n ∧ s5 = .int .i64 i ∧ xs.take i = ys.take i ∧ ∃ q, W = w.drewN q
set_option maxHeartbeats 4000000 in
set_option maxRecDepth 100000 in
theorem samec_any (P Q : Nat → Prop) (w : World) (xs ys : List Ct) (A A' : Option Addr) (n n' c c' : Nat) (h : kCt.row w P A n xs) (h' : kCt.row w Q A' n' ys) (hn : n ≤ 100000000) (hn' : n' ≤ 100000000) :
    Calls Tryz.prog 27 #[.slice A n c, .slice A' n' c'] w fun e w' => e = .returned (.bool (decide (xs = ys))) ∧ ∃ q, w' = w.drewN q := by
  have HL := Lib.hid (Lay.row_len h)
  have HL' := Lib.hid (Lay.row_len h')
  have HR := Lib.hid h
  have HR' := Lib.hid h'
  obtain ⟨r, hr⟩ : ∃ r, decide (xs = ys) = r := ⟨_, rfl⟩
  rw [hr]
  have HV := Lib.hid hr
  clear h h' hr
  by_cases hne : n = n'
  case neg =>
    have d : ((n : Int) != (n' : Int)) = true := by simp; omega
    have hF : r = false := by rw [← HV.out]; exact decide_eq_false fun e => hne (by rw [HL.out, HL'.out, e])
    subst hF
    go_enter Tryz.func27, Tryz.ntmps27
    go_wp2_with fail
    go_ret
    exact ⟨rfl, 0, rfl⟩
  subst hne
  go_enter Tryz.func27, Tryz.ntmps27
  go_wp2_with fail
  go_loopw [5] (fun s5 W => SaR w n xs ys s5 W) (fun s5 _ => toM n s5)
  case atStart => exact ⟨0, by omega, rfl, rfl, 0, rfl⟩
  case round =>
    obtain ⟨i, hi, rfl, hp, q, rfl⟩ := hrel
    have HP := Lib.hid hp
    clear hp
    by_cases hlt : i < n
    case neg =>
      obtain rfl : i = n := by omega
      have hni : ¬ ((i : Int) < (i : Int)) := by omega
      have hF : r = true := by
        rw [← HV.out]
        have := HP.out
        rw [HL.out, List.take_length] at this
        rw [← HL.out, HL'.out, List.take_length] at this
        exact decide_eq_true this
      subst hF
      go_wp2_with fail
      go_ret
      exact ⟨rfl, q, rfl⟩
    have hI : (i : Int) < (n : Int) := by omega
    obtain ⟨x, hx⟩ : ∃ x, xs[i]? = some x := ⟨_, List.getElem?_eq_getElem (by have := HL.out; omega)⟩
    obtain ⟨y, hy⟩ : ∃ y, ys[i]? = some y := ⟨_, List.getElem?_eq_getElem (by have := HL'.out; omega)⟩
    obtain ⟨b, off, rfl, _, _, a0, a1, a2, a3⟩ := ct_at HR.out hx
    obtain ⟨b', off', rfl, _, _, b0, b1, b2, b3⟩ := ct_at HR'.out hy
    have HX := Lib.hid hx
    have HY := Lib.hid hy
    clear hx hy
    by_cases hxy : x = y
    · subst hxy
      have d : ∀ W, (binOp .neq 69 (.agg #[.int .i64 x.br, .int .i64 x.nu, .int .i64 x.su, .int .i64 x.li]) (.agg #[.int .i64 x.br, .int .i64 x.nu, .int .i64 x.su, .int .i64 x.li])).run Tryz.prog W = .ok (.bool false) W := fun W => by
        have := neq_ct x x W; rw [decide_eq_true rfl] at this; exact this
      go_upto_region 6 with (fail)
      go_quiet (fail)
      go_wp2_with fail
      go_roundw
      case rel => exact ⟨i + 1, by omega, by go_num, take_eq HP.out HX.out HY.out rfl, _, rfl⟩
      case measure => simp only [toM]; omega
    · have d : ∀ W, (binOp .neq 69 (.agg #[.int .i64 x.br, .int .i64 x.nu, .int .i64 x.su, .int .i64 x.li]) (.agg #[.int .i64 y.br, .int .i64 y.nu, .int .i64 y.su, .int .i64 y.li])).run Tryz.prog W = .ok (.bool true) W := fun W => by
        have := neq_ct x y W; rw [decide_eq_false hxy] at this; exact this
      have hF : r = false := by
        rw [← HV.out]
        exact decide_eq_false fun e => hxy (by have h9 := HX.out; rw [e, HY.out] at h9; injection h9 with h9; exact h9.symm)
      subst hF
      clear hxy
      go_upto_region 6 with (fail)
      go_quiet (fail)
      go_wp2_with fail
      go_ret
      exact ⟨rfl, q + nq, by simp [World.drewN, Nat.add_assoc]⟩
end Go.Proofs.YtdbnddmncbjobaaGreatDoor

/- The reference's place: walked. -/
namespace Go.Proofs.YtdbnddmncbjobaaGreatDoor
open Go Go.RowKit
attribute [local go_sem] Oper.semAt_some

theorem info69 : (Tryz.prog.info? 69).map (fun i => (i.zero, i.size, i.bytes)) = some (some (Value.agg #[.int .i64 0, .int .i64 0, .int .i64 0, .int .i64 0]), 4, 32) := by kernel_rfl
/-- A row of the call's own, as a row. -/
theorem own_rowQ {β : Type} {k : Lay β} {e : TypeId} {W : World} {base : Nat} {P : Nat → Prop} {A : Option Addr} {n c : Nat} {xs : List β} (h : k.own e W base P (.slice A n c) xs) : n ≤ c ∧ k.row W (fun j => P j ∨ base ≤ j) A n xs := by
  obtain ⟨A', c', e1, h1, h2⟩ := Lay.own_row h
  have hlt := Lay.own_lt h
  obtain ⟨rfl, rfl, rfl⟩ := Value.slice.inj e1
  exact ⟨h1, Lay.row_mono h2 fun j hj _ => hj.imp id fun hj => (hlt j hj).1⟩
theorem row_A {β : Type} {k : Lay β} {W : World} {P : Nat → Prop} {A : Option Addr} {n : Nat} {xs : List β} (h : k.row W P A n xs) (e : A = none) : n = 0 := by
  subst e
  obtain ⟨ds, h1, h2, h3, _⟩ := h
  rcases Nat.eq_zero_or_pos n with h | h
  · exact h
  · obtain ⟨b, off, e, _⟩ := h3.2 h; cases e
end Go.Proofs.YtdbnddmncbjobaaGreatDoor

/- seal.selected and seal.Groups: walked. -/
namespace Go.Proofs.YtdbnddmncbjobaaGreatDoor
open Go Go.RowKit
attribute [local go_sem] Oper.semAt_some

def seaCs (s : Sea) : List Value := [.int .i64 s.ent, .int .i64 s.ver, .int .i64 s.fr, .int .i64 s.un, .int .i64 s.gr]
def kSea : Lay Sea where
  sz := 5
  rep _ _ s cs := cs = seaCs s
  len h := by subst h; rfl
  one h := by subst h; intro u hu; simp only [seaCs, List.mem_cons, List.not_mem_nil, or_false] at hu; rcases hu with rfl | rfl | rfl | rfl | rfl <;> rfl
  keep h _ _ := h
  mono h _ := h
theorem info48 : (Tryz.prog.info? 48).map (fun i => (i.zero, i.size, i.bytes)) = some (some (Value.agg #[.int .i64 0, .int .i64 0, .int .i64 0, .int .i64 0, .int .i64 0]), 5, 40) := by kernel_rfl
theorem sea_at {W : World} {P : Nat → Prop} {A : Option Addr} {n : Nat} {xs : List Sea} (h : kSea.row W P A n xs) {i : Nat} {x : Sea} (hi : xs[i]? = some x) :
    ∃ b off, A = some ⟨b, off, none⟩ ∧ b < W.heap.size ∧ W.cell? ⟨b, off + i * 5, none⟩ = some (.int .i64 x.ent) ∧ W.cell? ⟨b, off + i * 5 + 1, none⟩ = some (.int .i64 x.ver) ∧ W.cell? ⟨b, off + i * 5 + 2, none⟩ = some (.int .i64 x.fr) ∧ W.cell? ⟨b, off + i * 5 + 3, none⟩ = some (.int .i64 x.un) ∧ W.cell? ⟨b, off + i * 5 + 4, none⟩ = some (.int .i64 x.gr) := by
  obtain ⟨b, off, cs, rfl, hb, _, hrep, hc⟩ := Lay.row_at h hi
  have e : cs = seaCs x := hrep
  subst e
  exact ⟨b, off, rfl, hb, hc 0 _ rfl, hc 1 _ rfl, hc 2 _ rfl, hc 3 _ rfl, hc 4 _ rfl⟩
set_option maxHeartbeats 4000000 in
set_option maxRecDepth 100000 in
theorem clo75 (X : World) (z1 z2 z3 : Nat) (e v k : Int) (s : Sea) (h1 : X.cell? ⟨z1, 0, none⟩ = some (.int .i64 e)) (h2 : X.cell? ⟨z2, 0, none⟩ = some (.int .i64 v)) (h3 : X.cell? ⟨z3, 0, none⟩ = some (.int .i64 k)) :
    Calls Tryz.prog 75 #[.agg #[.int .i64 s.ent, .int .i64 s.ver, .int .i64 s.fr, .int .i64 s.un, .int .i64 s.gr], .pointer (some ⟨z1, 0, none⟩), .pointer (some ⟨z2, 0, none⟩), .pointer (some ⟨z3, 0, none⟩)] X (fun z X' => z = .returned (.bool (covS s e v k)) ∧ Ext X X') := by
  obtain ⟨s0, s1, s2, s3, s4⟩ := s
  have hx : Ext X (X.alloc (.cells #[.int .i64 s0, .int .i64 s1, .int .i64 s2, .int .i64 s3, .int .i64 s4] 48)) := (Ext.refl X).alloc _
  have HX := Lib.hid hx
  obtain ⟨r, hr⟩ : ∃ r, covS ⟨s0, s1, s2, s3, s4⟩ e v k = r := ⟨_, rfl⟩
  rw [hr]
  unfold covS at hr
  simp only at hr
  have c1 := fun o => (((Ext.refl X).alloc o).cells.1 z1 0 (World.block_lt_of_cell? _ _ h1)).trans h1
  have c2 := fun o => (((Ext.refl X).alloc o).cells.1 z2 0 (World.block_lt_of_cell? _ _ h2)).trans h2
  have c3 := fun o => (((Ext.refl X).alloc o).cells.1 z3 0 (World.block_lt_of_cell? _ _ h3)).trans h3
  clear hx
  by_cases g1 : s0 = e
  · have b1 : (s0 == e) = true := by simpa using g1
    by_cases g2 : s1 = v
    · have b2 : (s1 == v) = true := by simpa using g2
      by_cases g3 : s2 ≤ k
      · have b3 : decide (s2 ≤ k) = true := by simpa using g3
        have HR := Lib.hid (show r = decide (k < s3) by rw [← hr]; simp [g1, g2, g3])
        clear hr g1 g2 g3
        go_enter Tryz.func75, Tryz.ntmps75
        go_wp2_with fail
        go_ret
        exact ⟨by rw [HR.out]; rfl, HX.out⟩
      · have b3 : decide (s2 ≤ k) = false := by simpa using g3
        have HR := Lib.hid (show r = false by rw [← hr]; simp [g1, g2, g3])
        clear hr g1 g2 g3
        go_enter Tryz.func75, Tryz.ntmps75
        go_wp2_with fail
        go_ret
        exact ⟨by rw [HR.out]; rfl, HX.out⟩
    · have b2 : (s1 == v) = false := by simpa using g2
      have HR := Lib.hid (show r = false by rw [← hr]; simp [g1, g2])
      clear hr g1 g2
      go_enter Tryz.func75, Tryz.ntmps75
      go_wp2_with fail
      go_ret
      exact ⟨by rw [HR.out]; rfl, HX.out⟩
  · have b1 : (s0 == e) = false := by simpa using g1
    have HR := Lib.hid (show r = false by rw [← hr]; simp [g1])
    clear hr g1
    go_enter Tryz.func75, Tryz.ntmps75
    go_wp2_with fail
    go_ret
    exact ⟨by rw [HR.out]; rfl, HX.out⟩
def SeR (w : World) (p : Sea → Bool) (l : List Sea) (s5 s10 : Value) (W : World) : Prop := ∃ (i : Nat) (A : Option Addr) (c : Nat), i ≤ l.length ∧ s10 = .int .i64 i ∧ s5 = .slice A ((l.take i).filter p).length c ∧ kSea.own 48 W w.heap.size (fun _ => False) s5 ((l.take i).filter p) ∧ Ext w W
theorem sea_app {w X : World} {A : Option Addr} {m c : Nat} {xs : List Sea} (h : kSea.own 48 X w.heap.size (fun _ => False) (.slice A m c) xs) (hm : m = xs.length) (hx : Ext w X) (x : Sea) (hl : m ≤ 1000000) :
    ∃ A' c' w', (Builtin.append_ #[28, 28] 28 #[.slice A m c, .slice (some ⟨X.heap.size, 0, none⟩) 1 1]).run Tryz.prog (X.alloc (.cells #[.int .i64 x.ent, .int .i64 x.ver, .int .i64 x.fr, .int .i64 x.un, .int .i64 x.gr] 48)) = .ok (.slice A' (m + 1) c') w' ∧ kSea.own 48 w' w.heap.size (fun _ => False) (.slice A' (m + 1) c') (xs ++ [x]) ∧ Ext w w' := by
  subst hm
  obtain ⟨A', c', w', r1, r2, r3, _⟩ := own_app1 (k := kSea) (Pr := Tryz.prog) (t := 28) (e := 48) Tryz.underlying28 info48 rfl (by decide) (by omega) h hx.lt (cs := #[.int .i64 x.ent, .int .i64 x.ver, .int .i64 x.fr, .int .i64 x.un, .int .i64 x.gr]) (T := 48) (x := x) rfl 1 (by omega)
  exact ⟨A', c', w', r1, r2, Below.trans hx (r3 _ (Nat.le_refl _))⟩
set_option maxHeartbeats 4000000 in
set_option maxRecDepth 100000 in
theorem selected_any (P : Nat → Prop) (w : World) (A : Option Addr) (n c : Nat) (l : List Sea) (p : Sea → Bool) (p1 p2 p3 : Value) (h : kSea.row w P A n l) (hn : n ≤ 1000000)
    (hc : ∀ X (s : Sea), Ext w X → Calls Tryz.prog 75 #[.agg #[.int .i64 s.ent, .int .i64 s.ver, .int .i64 s.fr, .int .i64 s.un, .int .i64 s.gr], p1, p2, p3] X (fun z X' => z = .returned (.bool (p s)) ∧ Ext X X')) :
    Calls Tryz.prog 74 #[.slice A n c, .func (.func 75) #[] #[p1, p2, p3]] w fun e w' => ∃ A' c', e = .returned (.slice A' (l.filter p).length c') ∧ kSea.row w' (fun j => w.heap.size ≤ j) A' (l.filter p).length (l.filter p) ∧ Ext w w' := by
  have HL := Lib.hid (Lay.row_len h)
  have HR := Lib.hid h
  have HC := Lib.hid hc
  clear h hc
  go_enter Tryz.func74, Tryz.ntmps74
  go_wp2_with fail
  go_loopw [5, 10] (fun s5 s10 W => SeR w p l s5 s10 W) (fun _ s10 _ => toM n s10)
  case atStart => exact ⟨0, none, 0, by omega, rfl, rfl, Lay.own_nil _ _ _ _ _, Ext.refl _⟩
  case round =>
    obtain ⟨i, A1, c1, hi, rfl, rfl, ho, hx⟩ := hrel
    rw [← HL.out] at hi
    have HO := Lib.hid ho
    have HX := Lib.hid hx
    clear ho hx
    have hw1 : IntKind.i64.wrap ((i : Int) + 1) = (i : Int) + 1 := IntWalk.i64_in _ (by omega)
    have hml : ((l.take i).filter p).length ≤ i := Nat.le_trans (List.length_filter_le _ _) (by rw [List.length_take]; exact Nat.min_le_left _ _)
    obtain ⟨m, hm⟩ : ∃ m, ((l.take i).filter p).length = m := ⟨_, rfl⟩
    rw [hm] at HO hml ⊢
    have HM := Lib.hid hm.symm
    clear hm
    by_cases hlt : i < n
    case neg =>
      have hni : ¬ ((i : Int) < (n : Int)) := by omega
      have HF := Lib.hid (show l.take i = l from List.take_of_length_le (by have := HL.out; omega))
      go_wp2_with fail
      go_ret
      have ho9 := HO.out
      have hm9 := HM.out
      rw [HF.out] at ho9 hm9
      subst hm9
      obtain ⟨_, hr9⟩ := own_rowQ ho9
      exact ⟨A1, ⟨c1, rfl⟩, Lay.row_mono hr9 fun j hj _ => hj.elim False.elim id, HX.out⟩
    have hI : (i : Int) < (n : Int) := by omega
    obtain ⟨s, hs⟩ : ∃ s, l[i]? = some s := ⟨_, List.getElem?_eq_getElem (by have := HL.out; omega)⟩
    obtain ⟨b, off, rfl, hb, a0, a1, a2, a3, a4⟩ := sea_at (Lay.row_ext HR.out HX.out) hs
    have y0 := fun o => (((Ext.refl wr).alloc o).cells.1 b _ hb).trans a0
    have y1 := fun o => (((Ext.refl wr).alloc o).cells.1 b _ hb).trans a1
    have y2 := fun o => (((Ext.refl wr).alloc o).cells.1 b _ hb).trans a2
    have y3 := fun o => (((Ext.refl wr).alloc o).cells.1 b _ hb).trans a3
    have y4 := fun o => (((Ext.refl wr).alloc o).cells.1 b _ hb).trans a4
    obtain ⟨z, hz⟩ : ∃ z, wr.heap.size = z := ⟨_, rfl⟩
    obtain ⟨w2, hw2⟩ : ∃ w2, wr.alloc (.cells #[.int .i64 s.ent, .int .i64 s.ver, .int .i64 s.fr, .int .i64 s.un, .int .i64 s.gr] 48) = w2 := ⟨_, rfl⟩
    have hx2 : Ext wr w2 := by rw [← hw2]; exact (Ext.refl wr).alloc _
    have hB : w2.heap[z]? = some (.cells #[.int .i64 s.ent, .int .i64 s.ver, .int .i64 s.fr, .int .i64 s.un, .int .i64 s.gr] 48 (0, 0)) := by rw [← hw2, ← hz]; exact heap_alloc_new _ _
    have HB := Lib.hid hB
    have HX2 := Lib.hid (HX.out.trans hx2)
    have HXW := Lib.hid hx2
    have e0 := cell_of hB (i := 0) rfl
    have e1 := cell_of hB (i := 1) rfl
    have e2 := cell_of hB (i := 2) rfl
    have e3 := cell_of hB (i := 3) rfl
    have e4 := cell_of hB (i := 4) rfl
    have HCC := Lib.hid (HC.out w2 s HX2.out)
    have hts : l.take (i + 1) = l.take i ++ [s] := by rw [List.take_add_one, hs]; rfl
    cases hp : p s with
    | false =>
      have HST := Lib.hid (show (l.take (i + 1)).filter p = (l.take i).filter p by rw [hts, List.filter_append]; simp [hp])
      rw [hp] at HCC
      clear hts hp hs hx2 hB
      go_wp2_with (first | (go_at_call 75; refine (HCC.out).mono ?_; rintro e w3 ⟨rfl, hx3⟩; have HX3 := Lib.hid hx3; clear hx3))
      go_roundw
      case rel => exact ⟨i + 1, A1, c1, by have := HL.out; omega, by go_num, by rw [HST.out, ← HM.out], by rw [HST.out]; exact Lay.own_ext HO.out (HXW.out.trans HX3.out), HX2.out.trans HX3.out⟩
      case measure => simp only [toM]; omega
    | true =>
      have HST := Lib.hid (show (l.take (i + 1)).filter p = (l.take i).filter p ++ [s] by rw [hts, List.filter_append]; simp [hp])
      rw [hp] at HCC
      clear hts hp hs hx2 hB e0 e1 e2 e3 e4
      have e0 := cell_of HB.out (i := 0) rfl
      have e1 := cell_of HB.out (i := 1) rfl
      have e2 := cell_of HB.out (i := 2) rfl
      have e3 := cell_of HB.out (i := 3) rfl
      have e4 := cell_of HB.out (i := 4) rfl
      go_upto_region 6 with (first | (go_at_call 75; refine (HCC.out).mono ?_; rintro e w3 ⟨rfl, hx3⟩; have HX3 := Lib.hid hx3; clear hx3))
      clear e0 e1 e2 e3 e4
      have hB3 := (HX3.out.block _ (lt_of_block HB.out)).trans HB.out
      have e0 := cell_of hB3 (i := 0) rfl
      have e1 := cell_of hB3 (i := 1) rfl
      have e2 := cell_of hB3 (i := 2) rfl
      have e3 := cell_of hB3 (i := 3) rfl
      have e4 := cell_of hB3 (i := 4) rfl
      obtain ⟨A', c', w4, hrun, ho4, hx4⟩ := sea_app (Lay.own_ext HO.out (HXW.out.trans HX3.out)) HM.out (HX2.out.trans HX3.out) s (by omega)
      have RUN := Lib.hid hrun
      have HO4 := Lib.hid ho4
      have HX4 := Lib.hid hx4
      clear hrun ho4 hx4 hB3
      go_wp2_with (first | (at_builtin; refine wpList_append_run (s := .tmp 17) (x := .tmp 19) RUN.out rfl rfl rfl rfl rfl ?_))
      go_roundw
      case rel => exact ⟨i + 1, A', c', by have := HL.out; omega, by go_num, by rw [HST.out, List.length_append, ← HM.out]; rfl, by rw [HST.out]; exact HO4.out, HX4.out⟩
      case measure => simp only [toM]; omega
theorem or_pos {g : Int} {r : Nat} (h0 : 0 ≤ g) (h1 : g ≤ 65535) (hr : r ≤ 15) : ∃ g' : Int, 0 < g' ∧ g' ≤ 65535 ∧ bits BinOp.or IntKind.i64 g (2 ^ r) = g' := by
  obtain ⟨a, rfl⟩ : ∃ a : Nat, g = a := ⟨g.toNat, by omega⟩
  have ha : a < 2 ^ 16 := by omega
  have hb : 2 ^ r < 2 ^ 16 := Nat.pow_lt_pow_right (by omega) (by omega)
  have e1 : (BitVec.ofInt 64 (a : Int)).toNat = a := by
    rw [BitVec.ofInt_natCast, BitVec.toNat_ofNat]; exact Nat.mod_eq_of_lt (by omega)
  have e2 : (BitVec.ofInt 64 (2 ^ r : Int)).toNat = 2 ^ r := by
    rw [show (2 ^ r : Int) = ((2 ^ r : Nat) : Int) by simp, BitVec.ofInt_natCast, BitVec.toNat_ofNat]; exact Nat.mod_eq_of_lt (by omega)
  have e3 : (BitVec.ofInt 64 (a : Int) ||| BitVec.ofInt 64 (2 ^ r)).toNat = a ||| 2 ^ r := by rw [BitVec.toNat_or, e1, e2]
  have h3 : a ||| 2 ^ r < 2 ^ 16 := Nat.or_lt_two_pow ha hb
  have h4 : 2 ^ r ≤ a ||| 2 ^ r := Nat.right_le_or
  have h5 : 0 < 2 ^ r := Nat.pow_pos (by omega)
  refine ⟨((a ||| 2 ^ r : Nat) : Int), by omega, by omega, ?_⟩
  show IntKind.i64.wrap (((BitVec.ofInt 64 (a : Int) ||| BitVec.ofInt 64 (2 ^ r)).toNat : Nat) : Int) = _
  rw [e3]
  exact IntWalk.i64_in _ (by omega)
def GrR (w : World) (l : List Sea) (s9 s16 : Value) (W : World) : Prop := ∃ (i : Nat) (g : Int), i ≤ l.length ∧ s16 = .int .i64 i ∧ s9 = .int .i64 g ∧ 0 ≤ g ∧ g ≤ 65535 ∧ (g = 0 ↔ i = 0) ∧ Ext w W
set_option maxHeartbeats 4000000 in
set_option maxRecDepth 100000 in
theorem groups_any (P : Nat → Prop) (w : World) (A : Option Addr) (n c : Nat) (l : List Sea) (e v k : Int) (h : kSea.row w P A n l) (hn : n ≤ 1000000) (hg : ∀ s ∈ l, 0 ≤ s.gr ∧ s.gr ≤ 15) :
    Calls Tryz.prog 34 #[.slice A n c, .int .i64 e, .int .i64 v, .int .i64 k] w fun z w' => ∃ g : Int, z = .returned (.int .i64 g) ∧ (g = 0 ↔ seald l e v k = false) ∧ Ext w w' := by
  obtain ⟨b, hb⟩ : ∃ b, w.heap.size = b := ⟨_, rfl⟩
  obtain ⟨w1, hw1⟩ : ∃ w1, ((w.alloc (.cells #[.int .i64 e] 3)).alloc (.cells #[.int .i64 v] 3)).alloc (.cells #[.int .i64 k] 3) = w1 := ⟨_, rfl⟩
  have hx1 : Ext w w1 := by rw [← hw1]; exact (((Ext.refl w).alloc _).alloc _).alloc _
  have hB0 : w1.heap[b]? = some (.cells #[.int .i64 e] 3 (0, 0)) := by
    rw [← hw1, ← hb, heap_alloc_old _ _ _ (by simp; omega), heap_alloc_old _ _ _ (by simp)]; exact heap_alloc_new _ _
  have hB1 : w1.heap[b + 1]? = some (.cells #[.int .i64 v] 3 (0, 0)) := by
    rw [← hw1, ← hb, heap_alloc_old _ _ _ (by simp)]; exact heap_alloc_at _ _ _ _ (by simp)
  have hB2 : w1.heap[b + 1 + 1]? = some (.cells #[.int .i64 k] 3 (0, 0)) := by
    rw [← hw1, ← hb]; exact heap_alloc_at _ _ _ _ (by simp)
  have HSE := Lib.hid (selected_any P w1 A n c l (fun s => covS s e v k) (.pointer (some ⟨b, 0, none⟩)) (.pointer (some ⟨b + 1, 0, none⟩)) (.pointer (some ⟨b + 1 + 1, 0, none⟩)) (Lay.row_ext h hx1) hn fun X s hX => clo75 X b (b + 1) (b + 1 + 1) e v k s (cell_of ((hX.block _ (lt_of_block hB0)).trans hB0) rfl) (cell_of ((hX.block _ (lt_of_block hB1)).trans hB1) rfl) (cell_of ((hX.block _ (lt_of_block hB2)).trans hB2) rfl))
  have HX1 := Lib.hid hx1
  obtain ⟨F, hF⟩ : ∃ F, (l.filter fun s => covS s e v k) = F := ⟨_, rfl⟩
  have HFG := Lib.hid (show ∀ s ∈ F, 0 ≤ s.gr ∧ s.gr ≤ 15 by rw [← hF]; exact fun s hs => hg s (List.mem_filter.1 hs).1)
  have HFS := Lib.hid (show seald l e v k = false ↔ F.length = 0 by
    rw [← hF, List.length_eq_zero_iff, List.filter_eq_nil_iff]
    unfold seald
    rw [List.any_eq_false])
  obtain ⟨m, hm⟩ : ∃ m, F.length = m := ⟨_, rfl⟩
  have hmn : m ≤ 1000000 := by rw [← hm, ← hF]; exact Nat.le_trans (List.length_filter_le _ _) (by rw [← Lay.row_len h]; exact hn)
  rw [hF, hm] at HSE
  rw [hm] at HFS
  have HM := Lib.hid hm
  clear h hg hx1 hB0 hB1 hB2 hF hm
  go_enter Tryz.func34, Tryz.ntmps34
  go_wp2_with (first | (go_at_call 74; refine (HSE.out).mono ?_; rintro z w2 ⟨A2, c2, rfl, hr2, hx2⟩; have HR2 := Lib.hid hr2; have HX2 := Lib.hid hx2; clear hr2 hx2))
  clear hw1 hb
  go_loopw [9, 16] (fun s9 s16 W => GrR w2 F s9 s16 W) (fun _ s16 _ => toM m s16)
  case atStart => exact ⟨0, 0, by omega, rfl, rfl, by omega, by omega, by simp, Ext.refl _⟩
  case round =>
    obtain ⟨i, g, hi, rfl, rfl, hg0, hg1, hgi, hx⟩ := hrel
    rw [HM.out] at hi
    have HX := Lib.hid hx
    have HGI := Lib.hid hgi
    clear hx hgi
    have hw1 : IntKind.i64.wrap ((i : Int) + 1) = (i : Int) + 1 := IntWalk.i64_in _ (by omega)
    by_cases hlt : i < m
    case neg =>
      have hni : ¬ ((i : Int) < (m : Int)) := by omega
      go_wp2_with fail
      go_ret
      exact ⟨g, rfl, by rw [HFS.out, HGI.out]; omega, HX1.out.trans (HX2.out.trans HX.out)⟩
    have hI : (i : Int) < (m : Int) := by omega
    obtain ⟨s, hs⟩ : ∃ s, F[i]? = some s := ⟨_, List.getElem?_eq_getElem (by have := HM.out; omega)⟩
    obtain ⟨hs0, hs1⟩ := HFG.out s (List.mem_of_getElem? hs)
    obtain ⟨r, hr⟩ : ∃ r : Nat, s.gr = r := ⟨s.gr.toNat, by omega⟩
    obtain ⟨g', hgp, hgl, hor⟩ := or_pos hg0 hg1 (r := r) (by omega)
    obtain ⟨b2, off, rfl, hb2, a0, a1, a2, a3, a4⟩ := sea_at (Lay.row_ext HR2.out HX.out) hs
    rw [hr] at a4
    have y0 := fun o => (((Ext.refl wr).alloc o).cells.1 b2 _ hb2).trans a0
    have y1 := fun o => (((Ext.refl wr).alloc o).cells.1 b2 _ hb2).trans a1
    have y2 := fun o => (((Ext.refl wr).alloc o).cells.1 b2 _ hb2).trans a2
    have y3 := fun o => (((Ext.refl wr).alloc o).cells.1 b2 _ hb2).trans a3
    have y4 := fun o => (((Ext.refl wr).alloc o).cells.1 b2 _ hb2).trans a4
    have hpw : IntKind.i64.wrap (2 ^ r) = 2 ^ r := by
      have h9 : (2 : Nat) ^ r < 2 ^ 16 := Nat.pow_lt_pow_right (by omega) (by omega)
      obtain ⟨q, hq⟩ : ∃ q : Nat, 2 ^ r = q := ⟨_, rfl⟩
      have e : ((2 : Int) ^ r) = (q : Int) := by rw [← hq]; simp
      rw [hq] at h9
      rw [e]
      exact IntWalk.i64_in _ (by omega)
    have hmin : min r 64 = r := by omega
    have hrn : ¬ ((r : Int) < 0) := by omega
    clear hs hs0 hs1 hr
    have HGP := Lib.hid (And.intro hgp hgl)
    clear hgp hgl
    go_wp2_with fail
    go_roundw
    case rel => exact ⟨i + 1, g', by have := HM.out; omega, by go_num, rfl, by have := HGP.out; omega, HGP.out.2, by have := HGP.out; omega, HX.out.alloc _⟩
    case measure => simp only [toM]; omega
end Go.Proofs.YtdbnddmncbjobaaGreatDoor

/- Around and Pick of the third reference: the bodies of Hp's, under other numbers. -/
namespace Go.Proofs.YtdbnddmncbjobaaGreatDoor
open Go Go.RowKit

theorem around3_fn (n m : Int) (w : World) (h1 : -9223372036854775808 ≤ n) (h2 : n ≤ 9223372036854775807) (h3 : 1 ≤ m) (h4 : m ≤ 1000000000) :
    Calls Tryz.prog 17 #[.int .i64 n, .int .i64 m] w fun e w' => e = .returned (.int .i64 (arnd n m)) ∧ w = w' := by
  by_cases h : n < 0
  · have hb := neg_tmod_in n m h h3
    have HB := Lib.hid hb; clear hb
    have HE := Lib.hid (arnd_neg (m := m) h)
    go_enter Tryz.func17, Tryz.ntmps17
    go_wp2
    go_ret
    exact ⟨ret_int (by simpa using HE.out), rfl⟩
  · have HE := Lib.hid (arnd_pos (m := m) h)
    go_enter Tryz.func17, Tryz.ntmps17
    go_wp2
    go_ret
    exact ⟨ret_int (by simpa using HE.out), rfl⟩
set_option maxRecDepth 100000 in
theorem pick3_any (A : Option Addr) (c : Nat) (l : List Int) (i m : Nat) (w : World) (hm : 1 ≤ m) (hm2 : m ≤ 1000000000) (hb : ∀ n ∈ l, -9223372036854775808 ≤ n ∧ n ≤ 9223372036854775807) (h : SL icf 1 w A l.length l) :
    Calls Tryz.prog 65 #[.slice A l.length c, .int .i64 i, .int .i64 m] w fun e w' => e = .returned (.int .i64 (pkI l i m)) ∧ w = w' := by
  by_cases hil : i < l.length
  · obtain ⟨b, off, n, rfl, hbb, hn, hmem, hc⟩ := h.at hil
    have HP := Lib.hid (show pkI l i m = arnd n m by unfold pkI; rw [hn])
    have hc0 := hc 0 (.int .i64 n) rfl
    rw [Nat.mul_one, Nat.add_zero] at hc0
    have HA := Lib.hid (fun X => around3_fn n m X (hb n hmem).1 (hb n hmem).2 (by omega) (by omega))
    have hni : ¬ (l.length : Int) ≤ (i : Int) := by omega
    clear hc hn h
    go_enter Tryz.func65, Tryz.ntmps65
    go_wp2_with (first | (go_at_call 17; refine (HA.out _).mono ?_; rintro e w1 ⟨rfl, rfl⟩))
    go_ret
    exact ⟨ret_int (by rw [HP.out]), rfl⟩
  · have HP := Lib.hid (show pkI l i m = 0 by unfold pkI; rw [List.getElem?_eq_none (by omega)])
    have hni : (l.length : Int) ≤ (i : Int) := by omega
    clear h
    go_enter Tryz.func65, Tryz.ntmps65
    go_wp2
    go_ret
    exact ⟨ret_int (by rw [HP.out]), rfl⟩
end Go.Proofs.YtdbnddmncbjobaaGreatDoor

/- Seals made from numbers: walked. -/
namespace Go.Proofs.YtdbnddmncbjobaaGreatDoor
open Go Go.RowKit
attribute [local go_sem] Oper.semAt_some

/-- What the seals that are made bear. -/
def OkSea (s : Sea) : Prop := 0 ≤ s.gr ∧ s.gr ≤ 15
def SlR (w1 : World) (s5 s6 : Value) (W : World) : Prop := ∃ (i : Nat) (out : Value) (ls : List Sea), i ≤ 26 ∧ s6 = .int .i64 i ∧ out = s5 ∧ 3 * ls.length ≤ i ∧ (∀ s ∈ ls, OkSea s) ∧ kSea.own 48 W w1.heap.size (fun j => w1.heap.size ≤ j) out ls ∧ Ext w1 W
set_option maxHeartbeats 1000000 in
theorem eqIn_sea (d : Nat) (x y : Sea) (w : World) : (Op.equalIn (d + 1 + 1) 48 (.agg #[.int .i64 x.ent, .int .i64 x.ver, .int .i64 x.fr, .int .i64 x.un, .int .i64 x.gr]) (.agg #[.int .i64 y.ent, .int .i64 y.ver, .int .i64 y.fr, .int .i64 y.un, .int .i64 y.gr])).run Tryz.prog w = .ok (decide (x = y)) w := by
  obtain ⟨a, b, c, f, g⟩ := x
  obtain ⟨a', b', c', f', g'⟩ := y
  rw [Op.equalIn]
  simp [go_sem]
  by_cases h1 : a = a' <;> by_cases h2 : b = b' <;> by_cases h3 : c = c' <;> by_cases h4 : f = f' <;> by_cases h5 : g = g' <;> simp [h1, h2, h3, h4, h5]
theorem eql_sea (x y : Sea) (w : World) : (binOp .eql 48 (.agg #[.int .i64 x.ent, .int .i64 x.ver, .int .i64 x.fr, .int .i64 x.un, .int .i64 x.gr]) (.agg #[.int .i64 y.ent, .int .i64 y.ver, .int .i64 y.fr, .int .i64 y.un, .int .i64 y.gr])).run Tryz.prog w = .ok (.bool (decide (x = y))) w := by
  have h := eqIn_sea 9998 x y w
  simp only [binOp]
  simp [Op.equal, Op.maxDepth, h]
/-- What Seals gives. -/
def SealsGet (w : World) (e : Ending) (w' : World) : Prop := ∃ A1 n1 c1 ls, e = .returned (.slice A1 n1 c1) ∧ n1 ≤ c1 ∧ kSea.row w' (fun j => w.heap.size ≤ j) A1 n1 ls ∧ ls.length ≤ 8 ∧ (∀ s ∈ ls, OkSea s) ∧ Ext w w'
/-- The box of the section that was picked. -/
def SbC (w1 : World) (g : Nat) (c : Array Value) (T : TypeId) (s : Value) (wx : World) : Prop := ∃ z, g ≤ z ∧ s = .pointer (some ⟨z, 0, none⟩) ∧ wx.heap[z]? = some (.cells c T (0, 0)) ∧ Ext w1 wx
/-- Whether a seal was found among the first j. -/
def FoR (wd : World) (nl : Nat) (s11 s12 : Value) (W : World) : Prop := ∃ (j : Nat) (f : Bool), j ≤ nl ∧ s11 = .bool f ∧ s12 = .int .i64 j ∧ Ext wd W
set_option maxHeartbeats 8000000 in
set_option maxRecDepth 100000 in
theorem seals_any (P : Nat → Prop) (w : World) (b : Bk) (A B : Option Addr) (c N cB : Nat) (l : List Int) (hl : IL w A c l) (_hll : l.length ≤ 9223372036854775807) (hb : OkB b 4 3) (hr : kSe.row w P B N b.secs) :
    Calls Tryz.prog 54 #[.slice A l.length c, .agg #[.int .i64 b.ms, .int .i64 b.ht, .slice B N cB]] w (SealsGet w) := by
  have hN : N ≤ 4 := by have := Lay.row_len hr; have := hb.n; omega
  have HPK := Lib.hid (fun X (hX : Ext w X) (i m : Nat) hm hm2 => pick3_any A c l i m X hm hm2 hl.ok (hl.sl.ext hX))
  obtain ⟨m, hm⟩ : ∃ m, l.length = m := ⟨_, rfl⟩
  rw [hm] at HPK _hll ⊢
  clear hl hm
  obtain ⟨w1, hw1⟩ : ∃ w1, w.alloc (.cells #[.int .i64 b.ms, .int .i64 b.ht, .slice B N cB] 27) = w1 := ⟨_, rfl⟩
  have hx : Ext w w1 := by rw [← hw1]; exact (Ext.refl w).alloc _
  have hB : w1.heap[w.heap.size]? = some (.cells #[.int .i64 b.ms, .int .i64 b.ht, .slice B N cB] 27 (0, 0)) := by rw [← hw1]; exact heap_alloc_new w _
  have hbl : w.heap.size < w1.heap.size := lt_of_block hB
  have HQ := Lib.hid (fun X (hX : Ext w1 X) => (show X.cell? ⟨w.heap.size, 2, none⟩ = some (.slice B N cB) from cell_of ((hX.block _ hbl).trans hB) (i := 2) rfl))
  have HX := Lib.hid hx
  have HBL := Lib.hid hbl
  have HL := Lib.hid (Lay.row_len hr)
  have HR := Lib.hid (fun X (hX : Ext w1 X) => Lay.row_ext (Lay.row_ext hr hx) hX)
  have HB := Lib.hid hb
  clear hx hB hr hb hbl
  go_enter Tryz.func54, Tryz.ntmps54
  go_upto_region 1 with (fail)
  clear hw1
  go_wp2_with fail
  go_loopw [5, 6] (fun s5 s6 W => SlR w1 s5 s6 W) (fun _ s6 _ => toM 27 s6)
  case atStart => exact ⟨0, _, [], by omega, rfl, rfl, by simp, (fun s hs => by cases hs), Lay.own_nil _ _ _ _ _, Ext.refl _⟩
  case round =>
    obtain ⟨i, out, ls, hi, rfl, rfl, h3, hok, ho, hxr⟩ := hrel
    have HO := Lib.hid ho
    have HXR := Lib.hid hxr
    have HOK := Lib.hid hok
    have H3 := Lib.hid h3
    clear ho hxr hok h3
    have q2 := HQ.out _ HXR.out
    have hw2 : IntKind.i64.wrap ((i : Int) + 2) = (i : Int) + 2 := IntWalk.i64_in _ (by omega)
    by_cases hgo : (i + 2 < m ∧ i < 24) ∧ 0 < N
    case neg =>
      have hfin : ∃ A1 n1 c1, out = .slice A1 n1 c1 ∧ n1 ≤ c1 ∧ kSea.row wr (fun j => w.heap.size ≤ j) A1 n1 ls := by
        have hlt := Lay.own_lt HO.out
        obtain ⟨A9, c9, e9, h9, hr9⟩ := Lay.own_row HO.out
        exact ⟨A9, _, c9, e9, h9, Lay.row_mono hr9 fun j hj _ => by
          have := HX.out.lt
          rcases hj with hj | hj
          · omega
          · have := (hlt j hj).1; omega⟩
      obtain ⟨A1, n1, c1, rfl, hnc, hr1⟩ := hfin
      have HR1 := Lib.hid hr1
      have HNC := Lib.hid hnc
      clear hr1 hnc
      by_cases h1 : i + 2 < m
      · have g1 : (i : Int) + 2 < (m : Int) := by omega
        by_cases h2 : i < 24
        · have g2 : (i : Int) < 24 := by omega
          have g3 : ¬ (0 : Int) < (N : Int) := by omega
          clear hgo
          go_wp2_with fail
          go_ret
          exact ⟨A1, n1, c1, ls, rfl, HNC.out, HR1.out, by have := H3.out; omega, HOK.out, HX.out.trans HXR.out⟩
        · have g2 : ¬ (i : Int) < 24 := by omega
          clear hgo
          go_wp2_with fail
          go_ret
          exact ⟨A1, n1, c1, ls, rfl, HNC.out, HR1.out, by have := H3.out; omega, HOK.out, HX.out.trans HXR.out⟩
      · have g1 : ¬ (i : Int) + 2 < (m : Int) := by omega
        clear hgo
        go_wp2_with fail
        go_ret
        exact ⟨A1, n1, c1, ls, rfl, HNC.out, HR1.out, by have := H3.out; omega, HOK.out, HX.out.trans HXR.out⟩
    obtain ⟨⟨g1', g2'⟩, g3'⟩ := hgo
    have g1 : (i : Int) + 2 < (m : Int) := by omega
    have g2 : (i : Int) < 24 := by omega
    have g3 : (0 : Int) < (N : Int) := by omega
    obtain ⟨k, hk, hkN⟩ := pk_nat l i N (by omega)
    have HPN := Lib.hid (fun X (hX : Ext w1 X) => (show Calls Tryz.prog 65 #[.slice A m c, .int .i64 (i : Int), .int .i64 (N : Int)] X (fun e w' => e = .returned (.int .i64 (k : Int)) ∧ X = w') from by rw [← hk]; exact HPK.out X (HX.out.trans hX) i N (by omega) (by omega)))
    clear hk
    have hI : (k : Int) < (N : Int) := by omega
    obtain ⟨x, hxi⟩ : ∃ x, b.secs[k]? = some x := ⟨_, List.getElem?_eq_getElem (by have := HL.out; omega)⟩
    obtain ⟨bs, os, cs, rfl, hbs, _, hrep, hcs⟩ := Lay.row_at (HR.out _ HXR.out) hxi
    obtain ⟨A1, n1, c1, A2, n2, c2, rfl, hn1, hn2, hr1, hr2⟩ := kSe_rep.1 hrep
    have e0 := hcs 0 _ rfl
    have e1 := hcs 1 _ rfl
    have e2 := hcs 2 _ rfl
    have e3 := hcs 3 _ rfl
    rw [kSe_sz] at e0 e1 e2 e3
    rw [Nat.add_zero] at e0
    have HXI := Lib.hid (List.mem_of_getElem? hxi)
    have HR1 := Lib.hid hr1
    have HR2 := Lib.hid hr2
    clear hrep hcs hr1 hr2 hxi
    go_upto_region 5 with (fail)
    go_cut [7] (fun s7 wx => SbC wr wr.heap.size #[.int .i64 x.ent, .bool x.fz, .slice A1 n1 c1, .slice A2 n2 c2] 46 s7 wx)
    case first =>
      have hbl2 : w.heap.size < wr.heap.size := Nat.lt_of_lt_of_le HBL.out HXR.out.lt
      have HZ1 := Lib.hid (heap_alloc_new wr (.cells #[.int .i64 x.ent, .bool x.fz, .slice A1 n1 c1, .slice A2 n2 c2] 46))
      have HXD := Lib.hid (show Ext wr (wr.alloc (.cells #[.int .i64 x.ent, .bool x.fz, .slice A1 n1 c1, .slice A2 n2 c2] 46)).drew from ((Ext.refl wr).alloc _).drew)
      have HPN2 := Lib.hid (fun X (hX : Ext wr X) => HPN.out X (HXR.out.trans hX))
      go_region_law (first
        | (go_simp; go_at_call 65; refine (HPN2.out _ (by first | exact Ext.refl _ | exact (Ext.refl wr).drew | exact (Ext.refl wr).alloc _ | exact ((Ext.refl wr).alloc _).drew | exact (Ext.refl wr).drew.alloc _)).mono ?_; rintro e w2 ⟨rfl, rfl⟩; simp only []))
      all_goals
        go_wp2
        go_meet
        case rel => exact ⟨wr.heap.size, Nat.le_refl _, rfl, HZ1.out, HXD.out⟩
    case rest =>
      obtain ⟨z, hzl, rfl, hz, hxz⟩ := hcut
      have hl := HB.out.vs x HXI.out
      have e9 := Lay.row_len HR1.out
      have e8 := Lay.row_len HR2.out
      obtain rfl : n1 = n2 := by omega
      have hn11 : 1 ≤ n1 := by
        have h9 := hl.2.1
        have : x.vers.length ≠ 0 := fun e => h9 (List.eq_nil_of_length_eq_zero e)
        omega
      have hn10 : n1 ≤ 3 := by omega
      have HXC := Lib.hid (HXR.out.trans hxz)
      have hxz' := Lib.hid hxz
      have hzl2 := lt_of_block hz
      have y0 := cell_of hz (i := 0) (u := .int .i64 x.ent) rfl
      have y2 := cell_of hz (i := 2) (u := .slice A1 n1 c1) rfl
      have y3 := cell_of hz (i := 3) (u := .slice A2 n1 c2) rfl
      obtain ⟨v, hv, hvb⟩ := pk_nat l (i + 1) n1 hn11
      obtain ⟨gr, hgr, hgrb⟩ := pk_nat l (i + 1) 16 (by omega)
      obtain ⟨p7, hp7, hp7b⟩ := pk_nat l (i + 2) 7 (by omega)
      have en1 : ((i + 1 : Nat) : Int) = (i : Int) + 1 := by omega
      have en2 : ((i + 2 : Nat) : Int) = (i : Int) + 2 := by omega
      have HAV := Lib.hid (fun X (hX : Ext w1 X) => (show Calls Tryz.prog 65 #[.slice A m c, .int .i64 ((i : Int) + 1), .int .i64 (n1 : Int)] X (fun e w' => e = .returned (.int .i64 (v : Int)) ∧ X = w') from by rw [← hv, ← en1]; exact HPK.out X (HX.out.trans hX) (i + 1) n1 (by omega) (by omega)))
      have HAG := Lib.hid (fun X (hX : Ext w1 X) => (show Calls Tryz.prog 65 #[.slice A m c, .int .i64 ((i : Int) + 1), .int .i64 16] X (fun e w' => e = .returned (.int .i64 (gr : Int)) ∧ X = w') from by rw [← hgr, ← en1]; exact HPK.out X (HX.out.trans hX) (i + 1) 16 (by omega) (by omega)))
      have HA7 := Lib.hid (fun X (hX : Ext w1 X) => (show Calls Tryz.prog 65 #[.slice A m c, .int .i64 ((i : Int) + 2), .int .i64 7] X (fun e w' => e = .returned (.int .i64 (p7 : Int)) ∧ X = w') from by rw [← hp7, ← en2]; exact HPK.out X (HX.out.trans hX) (i + 2) 7 (by omega) (by omega)))
      clear hv hgr hp7
      have hV : (v : Int) < (n1 : Int) := by omega
      have gn1 : ((n1 : Int) == 0) = false := by simp; omega
      have hwi1 : IntKind.i64.wrap ((i : Int) + 1) = (i : Int) + 1 := IntWalk.i64_in _ (by omega)
      obtain ⟨vk, hvk⟩ : ∃ vk, x.vers[v]? = some vk := ⟨_, List.getElem?_eq_getElem (by omega)⟩
      obtain ⟨tk, htk⟩ : ∃ tk, x.texts[v]? = some tk := ⟨_, List.getElem?_eq_getElem (by omega)⟩
      obtain ⟨bv, ov, cv, rfl, hbv, _, hrv, hcv⟩ := Lay.row_at (Lay.row_ext HR1.out hxz) hvk
      obtain ⟨bt, ot, ct, rfl, hbt, _, hrt, hct⟩ := Lay.row_at (Lay.row_ext HR2.out hxz) htk
      obtain rfl : cv = [.int .i64 vk] := hrv
      obtain ⟨A3, n3, c3, A4, n4, c4, rfl, _, _, hr3, hr4⟩ := kTx_rep.1 hrt
      have v0 := hcv 0 _ rfl
      rw [show kInt.sz = 1 from rfl, Nat.mul_one, Nat.add_zero] at v0
      have t0 := hct 0 _ rfl
      have t1 := hct 1 _ rfl
      rw [kTx_sz] at t0 t1
      rw [Nat.add_zero] at t0
      have htx := HB.out.tx x HXI.out tk (List.mem_of_getElem? htk)
      have hp0 : ∀ p ∈ tk.paras ++ tk.notes, p.length ≤ 40 := fun p hp => by
        rcases List.mem_append.1 hp with h9 | h9
        · exact (htx.par.len p h9).2
        · have := (htx.len p h9).2; omega
      have h3n := Lay.row_len hr3
      have h4n := Lay.row_len hr4
      have hnp := htx.np
      have hnn := htx.nn
      obtain ⟨nw, hnw⟩ : ∃ nw, (tk.paras ++ tk.notes).flatten.length = nw := ⟨_, rfl⟩
      have hnwb : nw ≤ 10000 := by
        have h9 := flat_lt (ps := tk.paras ++ tk.notes) fun p hp => by have := hp0 p hp; omega
        rw [List.length_append] at h9
        omega
      have HCO := Lib.hid (fun X (hX : Ext wc X) => (show Calls Tryz.prog 108 #[.agg #[.slice A3 n3 c3, .slice A4 n4 c4]] X (fun e w' => e = .returned (.int .i64 (nw : Nat)) ∧ Ext X w') from by
        rw [← hnw]
        exact count108_any _ X A3 A4 n3 n4 c3 c4 tk (Lay.row_ext hr3 hX) (Lay.row_ext hr4 hX) (by omega) (by omega) fun p hp => by have := hp0 p hp; omega))
      clear hnw h3n h4n hnp hnn htx hp0
      obtain ⟨M, hM⟩ : ∃ M : Nat, max nw 1 = M := ⟨_, rfl⟩
      have hMi : max (nw : Int) 1 = (M : Int) := by omega
      obtain ⟨fr, hfr, hfrb⟩ := pk_nat l (i + 2) M (by omega)
      have HAF := Lib.hid (fun X (hX : Ext w1 X) => (show Calls Tryz.prog 65 #[.slice A m c, .int .i64 ((i : Int) + 2), .int .i64 (M : Int)] X (fun e w' => e = .returned (.int .i64 (fr : Int)) ∧ X = w') from by rw [← hfr, ← en2]; exact HPK.out X (HX.out.trans hX) (i + 2) M (by omega) (by omega)))
      clear hfr
      have HQZ := Lib.hid (fun X (hX : Ext wc X) => (show X.cell? ⟨z, 0, none⟩ = some (.int .i64 x.ent) ∧ X.cell? ⟨z, 2, none⟩ = some (.slice (some ⟨bv, ov, none⟩) n1 c1) ∧ X.cell? ⟨z, 3, none⟩ = some (.slice (some ⟨bt, ot, none⟩) n1 c2) ∧ X.cell? ⟨bv, ov + v, none⟩ = some (.int .i64 vk) from
        ⟨(hX.cells.1 _ _ hzl2).trans y0, (hX.cells.1 _ _ hzl2).trans y2, (hX.cells.1 _ _ hzl2).trans y3, (hX.cells.1 _ _ hbv).trans v0⟩))
      clear hvk htk hcv hct hrt hr3 hr4 hz hxz HR1 HR2 hl e9 e8 q2 e0 e1 e2 e3 en1 en2
      have HAV2 := Lib.hid (fun X (hX : Ext wc X) => HAV.out X (HXC.out.trans hX))
      go_upto_region 9 with (first
        | (go_at_call 65; refine (HAV.out _ HXC.out).mono ?_; rintro e w2 ⟨rfl, rfl⟩)
        | (go_at_call 108; refine (HCO.out _ (Ext.refl _)).mono ?_; rintro e w2 ⟨rfl, hx2⟩; have HX2 := Lib.hid hx2; clear hx2))
      have hw21 : IntKind.i64.wrap ((i : Int) + 2) = (i : Int) + 2 := IntWalk.i64_in _ (by omega)
      have HXC2 := Lib.hid (HXC.out.trans HX2.out)
      have HQ9 := Lib.hid (fun X (hX : Ext w2 X) => HQZ.out X (HX2.out.trans hX))
      have HAF9 := Lib.hid (fun X (hX : Ext w2 X) => HAF.out X (HXC2.out.trans hX))
      have HAG9 := Lib.hid (fun X (hX : Ext w2 X) => HAG.out X (HXC2.out.trans hX))
      have hcur : Ext w2 w2.drew := (Ext.refl _).drew
      clear y0 y2 y3 v0 t0 t1
      go_cut [10] (fun s10 wx => SbC w2 w2.heap.size #[.int .i64 x.ent, .int .i64 vk, .int .i64 (fr : Int), .int .i64 0, .int .i64 (gr : Int)] 48 s10 wx)
      case first =>
        have HZ2 := Lib.hid (show SbC w2 w2.heap.size #[.int .i64 x.ent, .int .i64 vk, .int .i64 (fr : Int), .int .i64 0, .int .i64 (gr : Int)] 48 (.pointer (some ⟨w2.heap.size, 0, none⟩)) (w2.drew.alloc (.cells #[.int .i64 x.ent, .int .i64 vk, .int .i64 (fr : Int), .int .i64 0, .int .i64 (gr : Int)] 48)) from ⟨_, Nat.le_refl _, rfl, heap_alloc_new w2.drew _, (Ext.refl w2).drew.alloc _⟩)
        have hS0 : (fun X : World => X.cell? ⟨z, 0, none⟩ = some (.int .i64 x.ent) ∧ X.cell? ⟨z, 2, none⟩ = some (.slice (some ⟨bv, ov, none⟩) n1 c1) ∧ X.cell? ⟨z, 3, none⟩ = some (.slice (some ⟨bt, ot, none⟩) n1 c2) ∧ X.cell? ⟨bv, ov + v, none⟩ = some (.int .i64 vk)) w2.drew := HQ9.out _ hcur
        refine wp_region_E (fun X : World => X.cell? ⟨z, 0, none⟩ = some (.int .i64 x.ent) ∧ X.cell? ⟨z, 2, none⟩ = some (.slice (some ⟨bv, ov, none⟩) n1 c1) ∧ X.cell? ⟨z, 3, none⟩ = some (.slice (some ⟨bt, ot, none⟩) n1 c2) ∧ X.cell? ⟨bv, ov + v, none⟩ = some (.int .i64 vk)) (fun _ => True) (fun i => i == 19) (by kernel_rfl) ?_
        refine wpE_takeS (i := 0) (d := some 57) (v := .pointer (some ⟨z, 0, none⟩)) rfl rfl (by kernel_rfl) (by kernel_rfl) (by kernel_rfl) (by kernel_rfl) (fun _ _ _ h => h) (by rfl) ?hya1 hS0 trivial ?goa1
        case hya1 =>
          intro w9 hT9
          clear hT9; go_simp
        (try simp only [Act.put, List.setIfInBounds_toArray, List.set_cons_zero, List.set_cons_succ])
        refine wpE_takeS (i := 1) (d := some 58) (v := .int .i64 x.ent) rfl rfl (by kernel_rfl) (by kernel_rfl) (by kernel_rfl) (by kernel_rfl) (fun _ _ _ h => h) (by rfl) ?hya2 hS0 trivial ?goa2
        case hya2 =>
          intro w9 hT9
          obtain ⟨y0, y1, y2, y3⟩ := hT9; go_simp
        (try simp only [Act.put, List.setIfInBounds_toArray, List.set_cons_zero, List.set_cons_succ])
        refine wpE_takeS (i := 2) (d := some 59) (v := .pointer (some ⟨z, 2, none⟩)) rfl rfl (by kernel_rfl) (by kernel_rfl) (by kernel_rfl) (by kernel_rfl) (fun _ _ _ h => h) (by rfl) ?hya3 hS0 trivial ?goa3
        case hya3 =>
          intro w9 hT9
          clear hT9; go_simp
        (try simp only [Act.put, List.setIfInBounds_toArray, List.set_cons_zero, List.set_cons_succ])
        refine wpE_takeS (i := 3) (d := some 60) (v := .slice (some ⟨bv, ov, none⟩) n1 c1) rfl rfl (by kernel_rfl) (by kernel_rfl) (by kernel_rfl) (by kernel_rfl) (fun _ _ _ h => h) (by rfl) ?hya4 hS0 trivial ?goa4
        case hya4 =>
          intro w9 hT9
          obtain ⟨y0, y1, y2, y3⟩ := hT9; go_simp
        (try simp only [Act.put, List.setIfInBounds_toArray, List.set_cons_zero, List.set_cons_succ])
        refine wpE_takeS (i := 4) (d := some 61) (v := .int .i64 (v : Int)) rfl rfl (by kernel_rfl) (by kernel_rfl) (by kernel_rfl) (by kernel_rfl) (fun _ _ _ h => h) (by rfl) ?hya5 hS0 trivial ?goa5
        case hya5 =>
          intro w9 hT9
          clear hT9; go_simp
        (try simp only [Act.put, List.setIfInBounds_toArray, List.set_cons_zero, List.set_cons_succ])
        refine wpE_takeS (i := 5) (d := some 62) (v := .pointer (some ⟨bv, ov + v, none⟩)) rfl rfl (by kernel_rfl) (by kernel_rfl) (by kernel_rfl) (by kernel_rfl) (fun _ _ _ h => h) (by rfl) ?hya6 hS0 trivial ?goa6
        case hya6 =>
          intro w9 hT9
          clear hT9; go_simp
        (try simp only [Act.put, List.setIfInBounds_toArray, List.set_cons_zero, List.set_cons_succ])
        refine wpE_takeS (i := 6) (d := some 63) (v := .int .i64 vk) rfl rfl (by kernel_rfl) (by kernel_rfl) (by kernel_rfl) (by kernel_rfl) (fun _ _ _ h => h) (by rfl) ?hya7 hS0 trivial ?goa7
        case hya7 =>
          intro w9 hT9
          obtain ⟨y0, y1, y2, y3⟩ := hT9; go_simp
        (try simp only [Act.put, List.setIfInBounds_toArray, List.set_cons_zero, List.set_cons_succ])
        refine wpE_takeS (i := 7) (d := some 64) (v := .slice A m c) rfl rfl (by kernel_rfl) (by kernel_rfl) (by kernel_rfl) (by kernel_rfl) (fun _ _ _ h => h) (by rfl) ?hya8 hS0 trivial ?goa8
        case hya8 =>
          intro w9 hT9
          clear hT9; go_simp
        (try simp only [Act.put, List.setIfInBounds_toArray, List.set_cons_zero, List.set_cons_succ])
        refine wpE_takeS (i := 8) (d := some 65) (v := .int .i64 (i : Int)) rfl rfl (by kernel_rfl) (by kernel_rfl) (by kernel_rfl) (by kernel_rfl) (fun _ _ _ h => h) (by rfl) ?hya9 hS0 trivial ?goa9
        case hya9 =>
          intro w9 hT9
          clear hT9; go_simp
        (try simp only [Act.put, List.setIfInBounds_toArray, List.set_cons_zero, List.set_cons_succ])
        refine wpE_takeS (i := 9) (d := some 66) (v := .int .i64 ((i : Int) + 2)) rfl rfl (by kernel_rfl) (by kernel_rfl) (by kernel_rfl) (by kernel_rfl) (fun _ _ _ h => h) (by rfl) ?hya10 hS0 trivial ?goa10
        case hya10 =>
          intro w9 hT9
          clear hT9; go_simp
        (try simp only [Act.put, List.setIfInBounds_toArray, List.set_cons_zero, List.set_cons_succ])
        refine wpE_takeS (i := 10) (d := some 67) (v := .int .i64 (nw : Int)) rfl rfl (by kernel_rfl) (by kernel_rfl) (by kernel_rfl) (by kernel_rfl) (fun _ _ _ h => h) (by rfl) ?hya11 hS0 trivial ?goa11
        case hya11 =>
          intro w9 hT9
          clear hT9; go_simp
        (try simp only [Act.put, List.setIfInBounds_toArray, List.set_cons_zero, List.set_cons_succ])
        refine wpE_takeS (i := 13) (d := some 70) (v := .slice A m c) rfl rfl (by kernel_rfl) (by kernel_rfl) (by kernel_rfl) (by kernel_rfl) (fun _ _ _ h => h) (by rfl) ?hya12 hS0 trivial ?goa12
        case hya12 =>
          intro w9 hT9
          clear hT9; go_simp
        (try simp only [Act.put, List.setIfInBounds_toArray, List.set_cons_zero, List.set_cons_succ])
        refine wpE_takeS (i := 14) (d := some 71) (v := .int .i64 (i : Int)) rfl rfl (by kernel_rfl) (by kernel_rfl) (by kernel_rfl) (by kernel_rfl) (fun _ _ _ h => h) (by rfl) ?hya13 hS0 trivial ?goa13
        case hya13 =>
          intro w9 hT9
          clear hT9; go_simp
        (try simp only [Act.put, List.setIfInBounds_toArray, List.set_cons_zero, List.set_cons_succ])
        refine wpE_takeS (i := 15) (d := some 72) (v := .int .i64 ((i : Int) + 1)) rfl rfl (by kernel_rfl) (by kernel_rfl) (by kernel_rfl) (by kernel_rfl) (fun _ _ _ h => h) (by rfl) ?hya14 hS0 trivial ?goa14
        case hya14 =>
          intro w9 hT9
          clear hT9; go_simp
        (try simp only [Act.put, List.setIfInBounds_toArray, List.set_cons_zero, List.set_cons_succ])
        refine wpE_all (rs := [11, 18]) (by kernel_rfl) (by simp) ?_
        refine AllE.cons rfl (fun K hK => ?_) (AllE.cons rfl (fun K hK => ?_) AllE.nil)
        · skip
          simp only [List.getElem_toArray, List.getElem_cons_succ, List.getElem_cons_zero]
          go_simp
          refine hK.out _ _ ⟨fun _ => (HQ9.out _ hcur), trivial⟩ (fun _ => ?_)
          clear hK K
          have hS0 := (HQ9.out _ hcur)
          (try simp only [Act.put, List.setIfInBounds_toArray, List.set_cons_zero, List.set_cons_succ])
          refine wpE_all (rs := [12, 18]) (by kernel_rfl) (by simp) ?_
          refine AllE.cons rfl (fun K hK => ?_) (AllE.cons rfl (fun K hK => ?_) AllE.nil)
          · skip
            simp only [List.getElem_toArray, List.getElem_cons_succ, List.getElem_cons_zero]
            go_simp
            go_at_call 65
            refine (HAF9.out _ hcur).mono ?_
            rintro z9 w9 ⟨rfl, rfl⟩
            simp only []
            refine hK.out _ _ ⟨fun _ => (HQ9.out _ hcur), trivial⟩ (fun _ => ?_)
            clear hK K
            have hS0 := (HQ9.out _ hcur)
            (try simp only [Act.put, List.setIfInBounds_toArray, List.set_cons_zero, List.set_cons_succ])
            refine wpE_all (rs := [16, 18]) (by kernel_rfl) (by simp) ?_
            refine AllE.cons rfl (fun K hK => ?_) (AllE.cons rfl (fun K hK => ?_) AllE.nil)
            · skip
              simp only [List.getElem_toArray, List.getElem_cons_succ, List.getElem_cons_zero]
              go_simp
              go_at_call 65
              refine (HAG9.out _ hcur).mono ?_
              rintro z9 w9 ⟨rfl, rfl⟩
              simp only []
              refine hK.out _ _ ⟨fun _ => (HQ9.out _ hcur), trivial⟩ (fun _ => ?_)
              clear hK K
              have hS0 := (HQ9.out _ hcur)
              (try simp only [Act.put, List.setIfInBounds_toArray, List.set_cons_zero, List.set_cons_succ])
              refine wpE_takeS (i := 17) (d := some 74) (v := .agg #[.int .i64 x.ent, .int .i64 vk, .int .i64 (fr : Int), .int .i64 0, .int .i64 (gr : Int)]) rfl rfl (by kernel_rfl) (by kernel_rfl) (by kernel_rfl) (by kernel_rfl) (fun _ _ _ h => h) (by rfl) ?hya15 hS0 trivial ?goa15
              case hya15 =>
                intro w9 hT9
                clear hT9; go_simp
              (try simp only [Act.put, List.setIfInBounds_toArray, List.set_cons_zero, List.set_cons_succ])
              refine wpE_all (rs := [18]) (by kernel_rfl) (by simp) ?_
              refine AllE.cons rfl (fun K hK => ?_) AllE.nil
              simp only [List.getElem_toArray, List.getElem_cons_succ, List.getElem_cons_zero]
              go_simp
              refine hK.out _ _ ⟨fun _ => (HQ9.out _ (hcur.alloc (.cells #[.int .i64 0, .int .i64 0, .int .i64 0, .int .i64 0, .int .i64 0] 48))), trivial⟩ (fun _ => ?_)
              clear hK K
              have hS0 := (HQ9.out _ (hcur.alloc (.cells #[.int .i64 0, .int .i64 0, .int .i64 0, .int .i64 0, .int .i64 0] 48)))
              (try simp only [Act.put, List.setIfInBounds_toArray, List.set_cons_zero, List.set_cons_succ])
              refine wpE_all (rs := [19]) (by kernel_rfl) (by simp) ?_
              refine AllE.cons rfl (fun K hK => ?_) AllE.nil
              simp only [List.getElem_toArray, List.getElem_cons_succ, List.getElem_cons_zero]
              go_simp
              refine hK.out _ _ ⟨fun h => absurd h (by simp), trivial⟩ (fun _ => ?_)
              clear hK K
              (try simp only [Act.put, List.setIfInBounds_toArray, List.set_cons_zero, List.set_cons_succ])
              refine wpE_done (by kernel_rfl) ?_ _
              go_wp2_with fail
              go_meet
              case rel => exact HZ2.out
            · skip
              simp only [List.getElem_toArray, List.getElem_cons_succ, List.getElem_cons_zero]
              go_simp
              refine hK.out _ _ ⟨fun _ => (HQ9.out _ (hcur.alloc (.cells #[.int .i64 0, .int .i64 0, .int .i64 0, .int .i64 0, .int .i64 0] 48))), trivial⟩ (fun _ => ?_)
              clear hK K
              have hS0 := (HQ9.out _ (hcur.alloc (.cells #[.int .i64 0, .int .i64 0, .int .i64 0, .int .i64 0, .int .i64 0] 48)))
              (try simp only [Act.put, List.setIfInBounds_toArray, List.set_cons_zero, List.set_cons_succ])
              refine wpE_all (rs := [16]) (by kernel_rfl) (by simp) ?_
              refine AllE.cons rfl (fun K hK => ?_) AllE.nil
              simp only [List.getElem_toArray, List.getElem_cons_succ, List.getElem_cons_zero]
              go_simp
              go_at_call 65
              refine (HAG9.out _ (hcur.alloc (.cells #[.int .i64 0, .int .i64 0, .int .i64 0, .int .i64 0, .int .i64 0] 48))).mono ?_
              rintro z9 w9 ⟨rfl, rfl⟩
              simp only []
              refine hK.out _ _ ⟨fun _ => (HQ9.out _ (hcur.alloc (.cells #[.int .i64 0, .int .i64 0, .int .i64 0, .int .i64 0, .int .i64 0] 48))), trivial⟩ (fun _ => ?_)
              clear hK K
              have hS0 := (HQ9.out _ (hcur.alloc (.cells #[.int .i64 0, .int .i64 0, .int .i64 0, .int .i64 0, .int .i64 0] 48)))
              (try simp only [Act.put, List.setIfInBounds_toArray, List.set_cons_zero, List.set_cons_succ])
              refine wpE_takeS (i := 17) (d := some 74) (v := .agg #[.int .i64 x.ent, .int .i64 vk, .int .i64 (fr : Int), .int .i64 0, .int .i64 (gr : Int)]) rfl rfl (by kernel_rfl) (by kernel_rfl) (by kernel_rfl) (by kernel_rfl) (fun _ _ _ h => h) (by rfl) ?hya16 hS0 trivial ?goa16
              case hya16 =>
                intro w9 hT9
                clear hT9; go_simp
              (try simp only [Act.put, List.setIfInBounds_toArray, List.set_cons_zero, List.set_cons_succ])
              refine wpE_all (rs := [19]) (by kernel_rfl) (by simp) ?_
              refine AllE.cons rfl (fun K hK => ?_) AllE.nil
              simp only [List.getElem_toArray, List.getElem_cons_succ, List.getElem_cons_zero]
              go_simp
              refine hK.out _ _ ⟨fun h => absurd h (by simp), trivial⟩ (fun _ => ?_)
              clear hK K
              (try simp only [Act.put, List.setIfInBounds_toArray, List.set_cons_zero, List.set_cons_succ])
              refine wpE_done (by kernel_rfl) ?_ _
              go_wp2_with fail
              go_meet
              case rel => exact HZ2.out
          · skip
            simp only [List.getElem_toArray, List.getElem_cons_succ, List.getElem_cons_zero]
            go_simp
            refine hK.out _ _ ⟨fun _ => (HQ9.out _ (hcur.alloc (.cells #[.int .i64 0, .int .i64 0, .int .i64 0, .int .i64 0, .int .i64 0] 48))), trivial⟩ (fun _ => ?_)
            clear hK K
            have hS0 := (HQ9.out _ (hcur.alloc (.cells #[.int .i64 0, .int .i64 0, .int .i64 0, .int .i64 0, .int .i64 0] 48)))
            (try simp only [Act.put, List.setIfInBounds_toArray, List.set_cons_zero, List.set_cons_succ])
            refine wpE_all (rs := [12]) (by kernel_rfl) (by simp) ?_
            refine AllE.cons rfl (fun K hK => ?_) AllE.nil
            simp only [List.getElem_toArray, List.getElem_cons_succ, List.getElem_cons_zero]
            go_simp
            go_at_call 65
            refine (HAF9.out _ (hcur.alloc (.cells #[.int .i64 0, .int .i64 0, .int .i64 0, .int .i64 0, .int .i64 0] 48))).mono ?_
            rintro z9 w9 ⟨rfl, rfl⟩
            simp only []
            refine hK.out _ _ ⟨fun _ => (HQ9.out _ (hcur.alloc (.cells #[.int .i64 0, .int .i64 0, .int .i64 0, .int .i64 0, .int .i64 0] 48))), trivial⟩ (fun _ => ?_)
            clear hK K
            have hS0 := (HQ9.out _ (hcur.alloc (.cells #[.int .i64 0, .int .i64 0, .int .i64 0, .int .i64 0, .int .i64 0] 48)))
            (try simp only [Act.put, List.setIfInBounds_toArray, List.set_cons_zero, List.set_cons_succ])
            refine wpE_all (rs := [16]) (by kernel_rfl) (by simp) ?_
            refine AllE.cons rfl (fun K hK => ?_) AllE.nil
            simp only [List.getElem_toArray, List.getElem_cons_succ, List.getElem_cons_zero]
            go_simp
            go_at_call 65
            refine (HAG9.out _ (hcur.alloc (.cells #[.int .i64 0, .int .i64 0, .int .i64 0, .int .i64 0, .int .i64 0] 48))).mono ?_
            rintro z9 w9 ⟨rfl, rfl⟩
            simp only []
            refine hK.out _ _ ⟨fun _ => (HQ9.out _ (hcur.alloc (.cells #[.int .i64 0, .int .i64 0, .int .i64 0, .int .i64 0, .int .i64 0] 48))), trivial⟩ (fun _ => ?_)
            clear hK K
            have hS0 := (HQ9.out _ (hcur.alloc (.cells #[.int .i64 0, .int .i64 0, .int .i64 0, .int .i64 0, .int .i64 0] 48)))
            (try simp only [Act.put, List.setIfInBounds_toArray, List.set_cons_zero, List.set_cons_succ])
            refine wpE_takeS (i := 17) (d := some 74) (v := .agg #[.int .i64 x.ent, .int .i64 vk, .int .i64 (fr : Int), .int .i64 0, .int .i64 (gr : Int)]) rfl rfl (by kernel_rfl) (by kernel_rfl) (by kernel_rfl) (by kernel_rfl) (fun _ _ _ h => h) (by rfl) ?hya17 hS0 trivial ?goa17
            case hya17 =>
              intro w9 hT9
              clear hT9; go_simp
            (try simp only [Act.put, List.setIfInBounds_toArray, List.set_cons_zero, List.set_cons_succ])
            refine wpE_all (rs := [19]) (by kernel_rfl) (by simp) ?_
            refine AllE.cons rfl (fun K hK => ?_) AllE.nil
            simp only [List.getElem_toArray, List.getElem_cons_succ, List.getElem_cons_zero]
            go_simp
            refine hK.out _ _ ⟨fun h => absurd h (by simp), trivial⟩ (fun _ => ?_)
            clear hK K
            (try simp only [Act.put, List.setIfInBounds_toArray, List.set_cons_zero, List.set_cons_succ])
            refine wpE_done (by kernel_rfl) ?_ _
            go_wp2_with fail
            go_meet
            case rel => exact HZ2.out
        · skip
          simp only [List.getElem_toArray, List.getElem_cons_succ, List.getElem_cons_zero]
          go_simp
          refine hK.out _ _ ⟨fun _ => (HQ9.out _ (hcur.alloc (.cells #[.int .i64 0, .int .i64 0, .int .i64 0, .int .i64 0, .int .i64 0] 48))), trivial⟩ (fun _ => ?_)
          clear hK K
          have hS0 := (HQ9.out _ (hcur.alloc (.cells #[.int .i64 0, .int .i64 0, .int .i64 0, .int .i64 0, .int .i64 0] 48)))
          (try simp only [Act.put, List.setIfInBounds_toArray, List.set_cons_zero, List.set_cons_succ])
          refine wpE_all (rs := [11]) (by kernel_rfl) (by simp) ?_
          refine AllE.cons rfl (fun K hK => ?_) AllE.nil
          simp only [List.getElem_toArray, List.getElem_cons_succ, List.getElem_cons_zero]
          go_simp
          refine hK.out _ _ ⟨fun _ => (HQ9.out _ (hcur.alloc (.cells #[.int .i64 0, .int .i64 0, .int .i64 0, .int .i64 0, .int .i64 0] 48))), trivial⟩ (fun _ => ?_)
          clear hK K
          have hS0 := (HQ9.out _ (hcur.alloc (.cells #[.int .i64 0, .int .i64 0, .int .i64 0, .int .i64 0, .int .i64 0] 48)))
          (try simp only [Act.put, List.setIfInBounds_toArray, List.set_cons_zero, List.set_cons_succ])
          refine wpE_all (rs := [12]) (by kernel_rfl) (by simp) ?_
          refine AllE.cons rfl (fun K hK => ?_) AllE.nil
          simp only [List.getElem_toArray, List.getElem_cons_succ, List.getElem_cons_zero]
          go_simp
          go_at_call 65
          refine (HAF9.out _ (hcur.alloc (.cells #[.int .i64 0, .int .i64 0, .int .i64 0, .int .i64 0, .int .i64 0] 48))).mono ?_
          rintro z9 w9 ⟨rfl, rfl⟩
          simp only []
          refine hK.out _ _ ⟨fun _ => (HQ9.out _ (hcur.alloc (.cells #[.int .i64 0, .int .i64 0, .int .i64 0, .int .i64 0, .int .i64 0] 48))), trivial⟩ (fun _ => ?_)
          clear hK K
          have hS0 := (HQ9.out _ (hcur.alloc (.cells #[.int .i64 0, .int .i64 0, .int .i64 0, .int .i64 0, .int .i64 0] 48)))
          (try simp only [Act.put, List.setIfInBounds_toArray, List.set_cons_zero, List.set_cons_succ])
          refine wpE_all (rs := [16]) (by kernel_rfl) (by simp) ?_
          refine AllE.cons rfl (fun K hK => ?_) AllE.nil
          simp only [List.getElem_toArray, List.getElem_cons_succ, List.getElem_cons_zero]
          go_simp
          go_at_call 65
          refine (HAG9.out _ (hcur.alloc (.cells #[.int .i64 0, .int .i64 0, .int .i64 0, .int .i64 0, .int .i64 0] 48))).mono ?_
          rintro z9 w9 ⟨rfl, rfl⟩
          simp only []
          refine hK.out _ _ ⟨fun _ => (HQ9.out _ (hcur.alloc (.cells #[.int .i64 0, .int .i64 0, .int .i64 0, .int .i64 0, .int .i64 0] 48))), trivial⟩ (fun _ => ?_)
          clear hK K
          have hS0 := (HQ9.out _ (hcur.alloc (.cells #[.int .i64 0, .int .i64 0, .int .i64 0, .int .i64 0, .int .i64 0] 48)))
          (try simp only [Act.put, List.setIfInBounds_toArray, List.set_cons_zero, List.set_cons_succ])
          refine wpE_takeS (i := 17) (d := some 74) (v := .agg #[.int .i64 x.ent, .int .i64 vk, .int .i64 (fr : Int), .int .i64 0, .int .i64 (gr : Int)]) rfl rfl (by kernel_rfl) (by kernel_rfl) (by kernel_rfl) (by kernel_rfl) (fun _ _ _ h => h) (by rfl) ?hya18 hS0 trivial ?goa18
          case hya18 =>
            intro w9 hT9
            clear hT9; go_simp
          (try simp only [Act.put, List.setIfInBounds_toArray, List.set_cons_zero, List.set_cons_succ])
          refine wpE_all (rs := [19]) (by kernel_rfl) (by simp) ?_
          refine AllE.cons rfl (fun K hK => ?_) AllE.nil
          simp only [List.getElem_toArray, List.getElem_cons_succ, List.getElem_cons_zero]
          go_simp
          refine hK.out _ _ ⟨fun h => absurd h (by simp), trivial⟩ (fun _ => ?_)
          clear hK K
          (try simp only [Act.put, List.setIfInBounds_toArray, List.set_cons_zero, List.set_cons_succ])
          refine wpE_done (by kernel_rfl) ?_ _
          go_wp2_with fail
          go_meet
          case rel => exact HZ2.out
      case rest =>
        obtain ⟨zx, hzx, rfl, hzb, hxx⟩ := hcut
        have HW2 := Lib.hid (hxx)
        have hw2l : w2.heap.size < wc.heap.size := Nat.lt_of_le_of_lt hzx (lt_of_block hzb)
        have HXE := Lib.hid (HXC2.out.trans hxx)
        have c2 := cell_of hzb (i := 2) (u := .int .i64 (fr : Int)) rfl
        have hfz := frozen_of hzb 3
        have hc3 := cell_of hzb (i := 3) (u := .int .i64 0) rfl
        have HZB := Lib.hid hzb
        have HZX := Lib.hid hzx
        obtain ⟨q7, hq7⟩ : ∃ q7 : Nat, p7 % 4 = q7 := ⟨_, rfl⟩
        have hq7b : q7 < 4 := by omega
        have hrem : Int.tmod (p7 : Int) 4 = (q7 : Int) := by rw [Int.tmod_eq_emod_of_nonneg (by omega)]; omega
        have hremw : IntKind.i64.wrap (q7 : Int) = (q7 : Int) := IntWalk.i64_in _ (by omega)
        have hwf1 : IntKind.i64.wrap ((fr : Int) + 1) = (fr : Int) + 1 := IntWalk.i64_in _ (by omega)
        have hwf2 : IntKind.i64.wrap ((fr : Int) + 1 + (q7 : Int)) = (fr : Int) + 1 + (q7 : Int) := IntWalk.i64_in _ (by omega)
        have HC2 := Lib.hid (fun X (hX : Ext wc X) => (show X.cell? ⟨zx, 2, none⟩ = some (.int .i64 (fr : Int)) from (hX.cells.1 _ _ (lt_of_block HZB.out)).trans c2))
        have HA79 := Lib.hid (fun X (hX : Ext wc X) => HA7.out X (HXE.out.trans hX))
        have HGB := Lib.hid hgrb
        clear hxx hzb hzx c2 hcur hq7 hMi hM hp7b hgrb
        go_upto_region 10 with (fail)
        obtain ⟨wd, hwd⟩ : ∃ wd, (wc.setCell ⟨zx, 3, none⟩ (.int .i64 ((fr : Int) + 1 + (q7 : Int)))).drew = wd := ⟨_, rfl⟩
        have hzd : wd.heap[zx]? = some (.cells #[.int .i64 x.ent, .int .i64 vk, .int .i64 (fr : Int), .int .i64 ((fr : Int) + 1 + (q7 : Int)), .int .i64 (gr : Int)] 48 (0, 0)) := by
          rw [← hwd]
          exact heap_setCell_same _ zx 3 _ 48 _ HZB.out
        have hxd : Ext w2 wd := by rw [← hwd]; exact (HW2.out.setCell (p := ⟨zx, 3, none⟩) HZX.out _).drew
        have HZD := Lib.hid hzd
        have HXD := Lib.hid hxd
        have HWD := Lib.hid hwd
        clear hzd hxd hwd
        have hS0 : (fun X : World => X.cell? ⟨zx, 2, none⟩ = some (.int .i64 (fr : Int))) wc.drew := HC2.out _ (Ext.refl _).drew
        refine wp_region_E (fun X : World => X.cell? ⟨zx, 2, none⟩ = some (.int .i64 (fr : Int))) (fun _ => True) (fun i => i == 10) (by kernel_rfl) ?_
        refine wpE_takeS (i := 0) (d := some 75) (v := .pointer (some ⟨zx, 2, none⟩)) rfl rfl (by kernel_rfl) (by kernel_rfl) (by kernel_rfl) (by kernel_rfl) (fun _ _ _ h => h) (by rfl) ?hyb1 hS0 trivial ?gob1
        case hyb1 =>
          intro w9 hT9
          clear hT9; go_simp
        (try simp only [Act.put, List.setIfInBounds_toArray, List.set_cons_zero, List.set_cons_succ])
        refine wpE_takeS (i := 1) (d := some 76) (v := .int .i64 (fr : Int)) rfl rfl (by kernel_rfl) (by kernel_rfl) (by kernel_rfl) (by kernel_rfl) (fun _ _ _ h => h) (by rfl) ?hyb2 hS0 trivial ?gob2
        case hyb2 =>
          intro w9 hT9
          have y0 : w9.cell? ⟨zx, 2, none⟩ = some (.int .i64 (fr : Int)) := hT9; go_simp
        (try simp only [Act.put, List.setIfInBounds_toArray, List.set_cons_zero, List.set_cons_succ])
        refine wpE_takeS (i := 2) (d := some 77) (v := .int .i64 ((fr : Int) + 1)) rfl rfl (by kernel_rfl) (by kernel_rfl) (by kernel_rfl) (by kernel_rfl) (fun _ _ _ h => h) (by rfl) ?hyb3 hS0 trivial ?gob3
        case hyb3 =>
          intro w9 hT9
          clear hT9; go_simp
        (try simp only [Act.put, List.setIfInBounds_toArray, List.set_cons_zero, List.set_cons_succ])
        refine wpE_takeS (i := 3) (d := some 78) (v := .slice A m c) rfl rfl (by kernel_rfl) (by kernel_rfl) (by kernel_rfl) (by kernel_rfl) (fun _ _ _ h => h) (by rfl) ?hyb4 hS0 trivial ?gob4
        case hyb4 =>
          intro w9 hT9
          clear hT9; go_simp
        (try simp only [Act.put, List.setIfInBounds_toArray, List.set_cons_zero, List.set_cons_succ])
        refine wpE_takeS (i := 4) (d := some 79) (v := .int .i64 (i : Int)) rfl rfl (by kernel_rfl) (by kernel_rfl) (by kernel_rfl) (by kernel_rfl) (fun _ _ _ h => h) (by rfl) ?hyb5 hS0 trivial ?gob5
        case hyb5 =>
          intro w9 hT9
          clear hT9; go_simp
        (try simp only [Act.put, List.setIfInBounds_toArray, List.set_cons_zero, List.set_cons_succ])
        refine wpE_takeS (i := 5) (d := some 80) (v := .int .i64 ((i : Int) + 2)) rfl rfl (by kernel_rfl) (by kernel_rfl) (by kernel_rfl) (by kernel_rfl) (fun _ _ _ h => h) (by rfl) ?hyb6 hS0 trivial ?gob6
        case hyb6 =>
          intro w9 hT9
          clear hT9; go_simp
        (try simp only [Act.put, List.setIfInBounds_toArray, List.set_cons_zero, List.set_cons_succ])
        refine wpE_all (rs := [6]) (by kernel_rfl) (by simp) ?_
        refine AllE.cons rfl (fun K hK => ?_) AllE.nil
        simp only [List.getElem_toArray, List.getElem_cons_succ, List.getElem_cons_zero]
        go_simp
        go_at_call 65
        refine (HA79.out _ (Ext.refl _).drew).mono ?_
        rintro z9 w9 ⟨rfl, rfl⟩
        simp only []
        refine hK.out _ _ ⟨fun _ => (HC2.out _ (Ext.refl _).drew), trivial⟩ (fun _ => ?_)
        clear hK K
        have hS0 := (HC2.out _ (Ext.refl _).drew)
        (try simp only [Act.put, List.setIfInBounds_toArray, List.set_cons_zero, List.set_cons_succ])
        refine wpE_takeS (i := 7) (d := some 82) (v := .int .i64 (q7 : Int)) rfl rfl (by kernel_rfl) (by kernel_rfl) (by kernel_rfl) (by kernel_rfl) (fun _ _ _ h => h) (by rfl) ?hyb7 hS0 trivial ?gob7
        case hyb7 =>
          intro w9 hT9
          clear hT9; go_simp
        (try simp only [Act.put, List.setIfInBounds_toArray, List.set_cons_zero, List.set_cons_succ])
        refine wpE_takeS (i := 8) (d := some 83) (v := .int .i64 ((fr : Int) + 1 + (q7 : Int))) rfl rfl (by kernel_rfl) (by kernel_rfl) (by kernel_rfl) (by kernel_rfl) (fun _ _ _ h => h) (by rfl) ?hyb8 hS0 trivial ?gob8
        case hyb8 =>
          intro w9 hT9
          clear hT9; go_simp
        (try simp only [Act.put, List.setIfInBounds_toArray, List.set_cons_zero, List.set_cons_succ])
        refine wpE_takeS (i := 9) (d := some 84) (v := .pointer (some ⟨zx, 3, none⟩)) rfl rfl (by kernel_rfl) (by kernel_rfl) (by kernel_rfl) (by kernel_rfl) (fun _ _ _ h => h) (by rfl) ?hyb9 hS0 trivial ?gob9
        case hyb9 =>
          intro w9 hT9
          clear hT9; go_simp
        (try simp only [Act.put, List.setIfInBounds_toArray, List.set_cons_zero, List.set_cons_succ])
        refine wpE_all (rs := [10]) (by kernel_rfl) (by simp) ?_
        refine AllE.cons rfl (fun K hK => ?_) AllE.nil
        simp only [List.getElem_toArray, List.getElem_cons_succ, List.getElem_cons_zero]
        go_simp
        refine hK.out _ _ ⟨fun h => absurd h (by simp), trivial⟩ (fun _ => ?_)
        clear hK K
        (try simp only [Act.put, List.setIfInBounds_toArray, List.set_cons_zero, List.set_cons_succ])
        refine wpE_done (by kernel_rfl) ?_ _
        rw [HWD.out]
        clear hfz hc3
        have HXRD := Lib.hid (show Ext wr wd from hxz'.out.trans (HX2.out.trans HXD.out))
        have HOD := Lib.hid (Lay.own_ext HO.out HXRD.out)
        have HXWD := Lib.hid (HXC2.out.trans HXD.out)
        have hcap : ∃ A9 c9, out = .slice A9 ls.length c9 ∧ ls.length ≤ c9 ∧ kSea.row wd (fun _ => True) A9 ls.length ls := by
          obtain ⟨A9, c9, e9, h9, hr9⟩ := Lay.own_row HOD.out
          exact ⟨A9, c9, e9, h9, Lay.row_mono hr9 fun _ _ _ => trivial⟩
        obtain ⟨A9, c9, rfl, hc9, hr9⟩ := hcap
        have HR9 := Lib.hid hr9
        clear hr9
        obtain ⟨nl, hnl⟩ : ∃ nl, ls.length = nl := ⟨_, rfl⟩
        rw [hnl] at HR9 hc9
        have HNL := Lib.hid hnl
        have hnlb : nl ≤ 8 := by have := H3.out; omega
        obtain ⟨sx, hsx⟩ : ∃ sx : Sea, sx = ⟨x.ent, vk, (fr : Int), (fr : Int) + 1 + (q7 : Int), (gr : Int)⟩ := ⟨_, rfl⟩
        have HSX := Lib.hid hsx
        have HEQ := Lib.hid (fun (y : Sea) W => (show (binOp .eql 48 (.agg #[.int .i64 y.ent, .int .i64 y.ver, .int .i64 y.fr, .int .i64 y.un, .int .i64 y.gr]) (.agg #[.int .i64 x.ent, .int .i64 vk, .int .i64 (fr : Int), .int .i64 ((fr : Int) + 1 + (q7 : Int)), .int .i64 (gr : Int)])).run Tryz.prog W = .ok (.bool (decide (y = sx))) W from by rw [hsx]; exact eql_sea y ⟨x.ent, vk, (fr : Int), (fr : Int) + 1 + (q7 : Int), (gr : Int)⟩ W))
        have HQD := Lib.hid (fun X (hX : Ext wd X) => (show X.cell? ⟨zx, 0, none⟩ = some (.int .i64 x.ent) ∧ X.cell? ⟨zx, 1, none⟩ = some (.int .i64 vk) ∧ X.cell? ⟨zx, 2, none⟩ = some (.int .i64 (fr : Int)) ∧ X.cell? ⟨zx, 3, none⟩ = some (.int .i64 ((fr : Int) + 1 + (q7 : Int))) ∧ X.cell? ⟨zx, 4, none⟩ = some (.int .i64 (gr : Int)) from
          have h9 := (hX.block _ (lt_of_block HZD.out)).trans HZD.out
          ⟨cell_of h9 (i := 0) rfl, cell_of h9 (i := 1) rfl, cell_of h9 (i := 2) rfl, cell_of h9 (i := 3) rfl, cell_of h9 (i := 4) rfl⟩))
        clear hnl hsx
        rw [HNL.out]
        go_wp2_with fail
        go_loopw [11, 12] (fun s11 s12 W => FoR wd nl s11 s12 W) (fun _ s12 _ => toM nl s12)
        case atStart => exact ⟨0, false, by omega, rfl, rfl, Ext.refl _⟩
        case round =>
          obtain ⟨j, f, hj, rfl, rfl, hxj⟩ := hrel
          have HXJ := Lib.hid hxj
          clear hxj
          by_cases hjn : j < nl
          case pos =>
            have hJ : (j : Int) < (nl : Int) := by omega
            go_upto_region 15 with (fail)
            cases f with
            | true =>
              go_quiet (fail)
              go_wp2_with fail
              go_roundw
              case rel => exact ⟨j + 1, true, by omega, rfl, by go_num, HXJ.out.drewN _⟩
              case measure => simp only [toM]; omega
            | false =>
              obtain ⟨y, hy⟩ : ∃ y, ls[j]? = some y := ⟨_, List.getElem?_eq_getElem (by have := HNL.out; omega)⟩
              obtain ⟨b8, o8, rfl, hb8, d0, d1, d2, d3, d4⟩ := sea_at (Lay.row_ext HR9.out HXJ.out) hy
              obtain ⟨u0, u1, u2, u3, u4⟩ := HQD.out _ HXJ.out
              obtain ⟨r, hr⟩ : ∃ r, decide (y = sx) = r := ⟨_, rfl⟩
              have d := fun W => HEQ.out y W
              rw [hr] at d
              clear hr hy
              go_quiet (fail)
              go_wp2_with fail
              go_roundw
              case rel => exact ⟨j + 1, r, by omega, rfl, by go_num, HXJ.out.drewN _⟩
              case measure => simp only [toM]; omega
          have hjn2 : ¬ (j : Int) < (nl : Int) := by omega
          have HXWJ := Lib.hid (HXWD.out.trans HXJ.out)
          cases f with
          | true =>
            go_wp2_with fail
            go_roundw
            case rel => exact ⟨i + 3, _, ls, by omega, by go_num, rfl, by have := H3.out; omega, HOK.out, by have h9 := Lay.own_ext HOD.out HXJ.out; rw [HNL.out] at h9; exact h9, HXWJ.out⟩
            case measure => simp only [toM]; omega
          | false =>
            obtain ⟨u0, u1, u2, u3, u4⟩ := HQD.out _ HXJ.out
            obtain ⟨A10, c10, w10, hrun, ho10, hb10, _, _, _⟩ := own_app1 (k := kSea) (Pr := Tryz.prog) (t := 28) Tryz.underlying28 info48 rfl (by decide) (by omega) (Lay.own_ext HOD.out HXJ.out) HXWJ.out.lt (cs := #[.int .i64 x.ent, .int .i64 vk, .int .i64 (fr : Int), .int .i64 ((fr : Int) + 1 + (q7 : Int)), .int .i64 (gr : Int)]) (T := 48) (x := sx) (by rw [HSX.out]; rfl) 1 (by have := HNL.out; omega)
            have HRUN := Lib.hid hrun
            rw [HNL.out] at HRUN ho10
            have HO10 := Lib.hid ho10
            have HX10 := Lib.hid (show Ext w1 w10 from Below.trans HXWJ.out (hb10 _ (Nat.le_refl _)))
            clear hrun ho10 hb10
            go_wp2_with (first | (at_builtin; refine wpList_append_run HRUN.out rfl rfl rfl rfl rfl ?_))
            go_roundw
            case rel =>
              refine ⟨i + 3, _, ls ++ [sx], by omega, by go_num, rfl, by have := H3.out; rw [List.length_append]; simp only [List.length_singleton]; omega, ?_, HO10.out, HX10.out⟩
              intro s hs
              rcases List.mem_append.1 hs with h9 | h9
              · exact HOK.out s h9
              · simp only [List.mem_singleton] at h9
                rw [h9, HSX.out]
                exact ⟨by simp only []; omega, by simp only []; have := HGB.out; omega⟩
            case measure => simp only [toM]; omega
end Go.Proofs.YtdbnddmncbjobaaGreatDoor

/- made: the book and the seals of a case: walked. -/
namespace Go.Proofs.YtdbnddmncbjobaaGreatDoor
open Go Go.RowKit
attribute [local go_sem] Oper.semAt_some

/-- What made gives. -/
def MadeGet (w : World) (e : Ending) (w' : World) : Prop := ∃ (b : Bk) (A : Option Addr) (n c : Nat) (A1 : Option Addr) (n1 c1 : Nat) (ls : List Sea), e = .returned (.tuple #[.agg #[.int .i64 b.ms, .int .i64 b.ht, .slice A n c], .slice A1 n1 c1]) ∧ OkG b ∧ n ≤ c ∧ kSe.row w' (fun _ => True) A n b.secs ∧ n1 ≤ c1 ∧ kSea.row w' (fun _ => True) A1 n1 ls ∧ ls.length ≤ 8 ∧ (∀ s ∈ ls, OkSea s) ∧ Ext w w'
set_option maxHeartbeats 8000000 in
set_option maxRecDepth 100000 in
theorem made_any (A A' : Option Addr) (c c' : Nat) (l l' : List Int) (br tb : Int) (w : World) (h : IL w A c l) (hl : l.length ≤ 9223372036854775807) (h' : IL w A' c' l') (hl' : l'.length ≤ 9223372036854775807) :
    Calls Tryz.prog 16 #[.agg #[.slice A l.length c, .slice A' l'.length c', .int .i64 br, .int .i64 tb]] w (MadeGet w) := by
  have HG := Lib.hid (fun X (hX : Ext w X) => gbook_any A c l X (h.ext hX) hl)
  have HS := Lib.hid (fun X (hX : Ext w X) P (b : Bk) B N cB hb hr => seals_any P X b A' B c' N cB l' (h'.ext hX) hl' hb hr)
  clear h h' hl hl'
  obtain ⟨n1, hn1⟩ : ∃ n1, l.length = n1 := ⟨_, rfl⟩
  obtain ⟨n2, hn2⟩ : ∃ n2, l'.length = n2 := ⟨_, rfl⟩
  rw [hn1] at HG ⊢
  rw [hn2] at HS ⊢
  clear hn1 hn2
  obtain ⟨z, hz⟩ : ∃ z, w.heap.size = z := ⟨_, rfl⟩
  obtain ⟨w1, hw1⟩ : ∃ w1, (w.alloc (.cells #[.slice A n1 c, .slice A' n2 c', .int .i64 br, .int .i64 tb] 24)).alloc (.cells #[.int .i64 0, .int .i64 0, .slice none 0 0] 27) = w1 := ⟨_, rfl⟩
  have hx1 : Ext w w1 := by rw [← hw1]; exact ((Ext.refl w).alloc _).alloc _
  have hB1 : w1.heap[z]? = some (.cells #[.slice A n1 c, .slice A' n2 c', .int .i64 br, .int .i64 tb] 24 (0, 0)) := by
    rw [← hw1, ← hz, heap_alloc_old _ _ _ (by simp)]; exact heap_alloc_new _ _
  have hB2 : w1.heap[z + 1]? = some (.cells #[.int .i64 0, .int .i64 0, .slice none 0 0] 27 (0, 0)) := by
    rw [← hw1, ← hz]; exact heap_alloc_at _ _ _ _ (by simp)
  have HX1 := Lib.hid hx1
  have HB1 := Lib.hid hB1
  have HB2 := Lib.hid hB2
  have HZ := Lib.hid hz
  have HZW := Lib.hid (show z + 1 < w1.heap.size from lt_of_block hB2)
  clear hx1 hB1 hB2
  go_enter Tryz.func16, Tryz.ntmps16
  go_upto_region 1 with (fail)
  clear hw1 hz
  have a0 := cell_of HB1.out (i := 0) (u := .slice A n1 c) rfl
  go_wp2_with (first | (go_at_call 39; refine (HG.out _ HX1.out).mono ?_; rintro e w2 ⟨b, B, N, cB, rfl, hok, hnc, hr, hx2⟩; have HOK := Lib.hid hok; have HNC := Lib.hid hnc; have HR := Lib.hid hr; have HX2 := Lib.hid hx2; clear hok hnc hr hx2))
  obtain ⟨g, hg⟩ : ∃ g, w2.heap.size = g := ⟨_, rfl⟩
  obtain ⟨w3, hw3⟩ : ∃ w3, w2.alloc (.cells #[.int .i64 b.ms, .int .i64 b.ht, .slice B N cB] 27) = w3 := ⟨_, rfl⟩
  have hx23 : Ext w2 w3 := by rw [← hw3]; exact (Ext.refl w2).alloc _
  have hB3 : w3.heap[g]? = some (.cells #[.int .i64 b.ms, .int .i64 b.ht, .slice B N cB] 27 (0, 0)) := by rw [← hw3, ← hg]; exact heap_alloc_new _ _
  rw [hg, hw3]
  have hx13 : Ext w1 w3 := HX2.out.trans hx23
  have hl1 := lt_of_block HB1.out
  have HQ := Lib.hid (fun X (hX : Ext w3 X) => (show X.cell? ⟨z, 1, none⟩ = some (.slice A' n2 c') ∧ X.cell? ⟨g, 0, none⟩ = some (.int .i64 b.ms) ∧ X.cell? ⟨g, 1, none⟩ = some (.int .i64 b.ht) ∧ X.cell? ⟨g, 2, none⟩ = some (.slice B N cB) from
    have h9 := (hX.block _ (lt_of_block hB3)).trans hB3
    have h8 := ((hx13.trans hX).block _ hl1).trans HB1.out
    ⟨cell_of h8 (i := 1) rfl, cell_of h9 (i := 0) rfl, cell_of h9 (i := 1) rfl, cell_of h9 (i := 2) rfl⟩))
  have HBX := Lib.hid (fun X (hX : Ext w3 X) => (show X.heap[z + 1]? = some (.cells #[.int .i64 0, .int .i64 0, .slice none 0 0] 27 (0, 0)) from ((hx13.trans hX).block _ (lt_of_block HB2.out)).trans HB2.out))
  have HSE := Lib.hid (HS.out _ ((HX1.out.trans hx13).trans (Ext.refl w3).drew) _ b B N cB HOK.out.okB (Lay.row_ext HR.out (hx23.trans (Ext.refl w3).drew)))
  have HX23 := Lib.hid hx23
  have HX13 := Lib.hid hx13
  have HG2 := Lib.hid (show w1.heap.size ≤ g by rw [← hg]; exact HX2.out.lt)
  clear hx23 hB3 hw3 hg hx13 hl1 a0
  go_upto_region 2 with (fail)
  have hS0 : (fun X : World => X.cell? ⟨z, 1, none⟩ = some (.slice A' n2 c') ∧ X.cell? ⟨g, 0, none⟩ = some (.int .i64 b.ms) ∧ X.cell? ⟨g, 1, none⟩ = some (.int .i64 b.ht) ∧ X.cell? ⟨g, 2, none⟩ = some (.slice B N cB)) w3.drew := HQ.out _ (Ext.refl _).drew
  refine wp_region_E (fun X : World => X.cell? ⟨z, 1, none⟩ = some (.slice A' n2 c') ∧ X.cell? ⟨g, 0, none⟩ = some (.int .i64 b.ms) ∧ X.cell? ⟨g, 1, none⟩ = some (.int .i64 b.ht) ∧ X.cell? ⟨g, 2, none⟩ = some (.slice B N cB)) (fun _ => True) (fun i => i == 99) (by kernel_rfl) ?_
  refine wpE_takeS (i := 0) (d := some 8) (v := .agg #[.int .i64 b.ms, .int .i64 b.ht, .slice B N cB]) rfl rfl (by kernel_rfl) (by kernel_rfl) (by kernel_rfl) (by kernel_rfl) (fun _ _ _ h => h) (by rfl) ?hya1 hS0 trivial ?goa1
  case hya1 =>
    intro w9 hT9
    obtain ⟨y0, y1, y2, y3⟩ := hT9; go_simp
  (try simp only [Act.put, List.setIfInBounds_toArray, List.set_cons_zero, List.set_cons_succ])
  refine wpE_takeS (i := 1) (d := some 9) (v := .pointer (some ⟨z, 1, none⟩)) rfl rfl (by kernel_rfl) (by kernel_rfl) (by kernel_rfl) (by kernel_rfl) (fun _ _ _ h => h) (by rfl) ?hya2 hS0 trivial ?goa2
  case hya2 =>
    intro w9 hT9
    clear hT9; go_simp
  (try simp only [Act.put, List.setIfInBounds_toArray, List.set_cons_zero, List.set_cons_succ])
  refine wpE_takeS (i := 2) (d := some 10) (v := .slice A' n2 c') rfl rfl (by kernel_rfl) (by kernel_rfl) (by kernel_rfl) (by kernel_rfl) (fun _ _ _ h => h) (by rfl) ?hya3 hS0 trivial ?goa3
  case hya3 =>
    intro w9 hT9
    obtain ⟨y0, y1, y2, y3⟩ := hT9; go_simp
  (try simp only [Act.put, List.setIfInBounds_toArray, List.set_cons_zero, List.set_cons_succ])
  refine wpE_takeS (i := 3) (d := some 11) (v := .agg #[.int .i64 b.ms, .int .i64 b.ht, .slice B N cB]) rfl rfl (by kernel_rfl) (by kernel_rfl) (by kernel_rfl) (by kernel_rfl) (fun _ _ _ h => h) (by rfl) ?hya4 hS0 trivial ?goa4
  case hya4 =>
    intro w9 hT9
    obtain ⟨y0, y1, y2, y3⟩ := hT9; go_simp
  (try simp only [Act.put, List.setIfInBounds_toArray, List.set_cons_zero, List.set_cons_succ])
  refine wpE_all (rs := [4]) (by kernel_rfl) (by simp) ?_
  refine AllE.cons rfl (fun K hK => ?_) AllE.nil
  simp only [List.getElem_toArray, List.getElem_cons_succ, List.getElem_cons_zero]
  go_simp
  go_at_call 54
  refine (HSE.out).mono ?_
  rintro z9 w4 ⟨A1, m1, c1, ls, rfl, hc1, hrs, hls, hgs, hx4⟩
  have hx34 : Ext w3 w4 := (Ext.refl w3).drew.trans hx4
  simp only []
  refine hK.out _ _ ⟨fun _ => (HQ.out _ hx34), trivial⟩ (fun _ => ?_)
  clear hK K
  have hS0 := (HQ.out _ hx34)
  (try simp only [Act.put, List.setIfInBounds_toArray, List.set_cons_zero, List.set_cons_succ])
  have HBB := Lib.hid (HBX.out _ hx34)
  have hsw : (fun X : World => X.cell? ⟨z, 1, none⟩ = some (.slice A' n2 c') ∧ X.cell? ⟨g, 0, none⟩ = some (.int .i64 b.ms) ∧ X.cell? ⟨g, 1, none⟩ = some (.int .i64 b.ht) ∧ X.cell? ⟨g, 2, none⟩ = some (.slice B N cB)) (((w4.setCell ⟨z + 1, 0, none⟩ (.int .i64 b.ms)).setCell ⟨z + 1, 1, none⟩ (.int .i64 b.ht)).setCell ⟨z + 1, 2, none⟩ (.slice B N cB)) := by
    have hgz : g ≠ z + 1 := by have := HG2.out; have := HZW.out; omega
    have o := fun (bb oo : Nat) (u : Value) (hne : bb ≠ z + 1) (h : w4.cell? ⟨bb, oo, none⟩ = some u) => (show (((w4.setCell ⟨z + 1, 0, none⟩ (.int .i64 b.ms)).setCell ⟨z + 1, 1, none⟩ (.int .i64 b.ht)).setCell ⟨z + 1, 2, none⟩ (.slice B N cB)).cell? ⟨bb, oo, none⟩ = some u from
      (World.cell?_setCell_other _ _ _ _ (by intro e; injection e with e; omega)).trans ((World.cell?_setCell_other _ _ _ _ (by intro e; injection e with e; omega)).trans ((World.cell?_setCell_other _ _ _ _ (by intro e; injection e with e; omega)).trans h)))
    obtain ⟨y0, y1, y2, y3⟩ := HQ.out _ hx34
    exact ⟨o _ _ _ (by omega) y0, o _ _ _ hgz y1, o _ _ _ hgz y2, o _ _ _ hgz y3⟩
  have f0 := frozen_of HBB.out 0
  have f1 := frozen_of HBB.out 1
  have f2 := frozen_of HBB.out 2
  have v0 := cell_of HBB.out (i := 0) (u := .int .i64 0) rfl
  have v1 := cell_of HBB.out (i := 1) (u := .int .i64 0) rfl
  have v2 := cell_of HBB.out (i := 2) (u := .slice none 0 0) rfl
  refine wpE_all (rs := [5]) (by kernel_rfl) (by simp) ?_
  refine AllE.cons rfl (fun K hK => ?_) AllE.nil
  simp only [List.getElem_toArray, List.getElem_cons_succ, List.getElem_cons_zero]
  go_simp
  refine hK.out _ _ ⟨fun _ => hsw, trivial⟩ (fun _ => ?_)
  clear hK K
  (try simp only [Act.put, List.setIfInBounds_toArray, List.set_cons_zero, List.set_cons_succ])
  clear f0 f1 f2 v0 v1 v2
  refine wpE_all (rs := [6]) (by kernel_rfl) (by simp) ?_
  refine AllE.cons rfl (fun K hK => ?_) AllE.nil
  simp only [List.getElem_toArray, List.getElem_cons_succ, List.getElem_cons_zero]
  go_simp
  refine hK.out _ _ ⟨fun _ => hsw, trivial⟩ (fun _ => ?_)
  clear hK K
  (try simp only [Act.put, List.setIfInBounds_toArray, List.set_cons_zero, List.set_cons_succ])
  refine wpE_done (by kernel_rfl) ?_ _
  go_wp2_with fail
  have hs := st3 HBB.out (.int .i64 b.ms) (.int .i64 b.ht) (.slice B N cB)
  have q0 := cell_of hs (i := 0) rfl
  have q1 := cell_of hs (i := 1) rfl
  have q2 := cell_of hs (i := 2) rfl
  refine bodyPost_ret (v := .tuple #[.agg #[.int .i64 b.ms, .int .i64 b.ht, .slice B N cB], .slice A1 m1 c1]) (by simp [results, Tryz.results16, go_sem, q0, q1, q2]) rfl ?_
  have hk9 : ∀ j, w1.heap.size ≤ j → ((((w4.setCell ⟨z + 1, 0, none⟩ (.int .i64 b.ms)).setCell ⟨z + 1, 1, none⟩ (.int .i64 b.ht)).setCell ⟨z + 1, 2, none⟩ (.slice B N cB)).heap[j]? = w4.heap[j]?) := fun j hj => by
    have hz9 : j ≠ z + 1 := by have := HZW.out; omega
    exact (heap_setCell_other _ ⟨z + 1, 2, none⟩ j _ hz9).trans ((heap_setCell_other _ ⟨z + 1, 1, none⟩ j _ hz9).trans (heap_setCell_other _ ⟨z + 1, 0, none⟩ j _ hz9))
  refine ⟨b, B, N, cB, A1, m1, c1, ls, rfl, HOK.out, HNC.out, ?_, hc1, ?_, hls, hgs, ext3 (HX1.out.trans (HX13.out.trans hx34)) (by have := HZ.out; omega) _ _ _⟩
  · exact Lay.row_mono (Lay.row_keep (Lay.row_ext HR.out (HX23.out.trans hx34)) (by simp) fun j hj _ => hk9 j hj) fun _ _ _ => trivial
  · refine Lay.row_mono (Lay.row_keep hrs (by simp) fun j hj _ => hk9 j ?_) fun _ _ _ => trivial
    have h8 : w3.heap.size ≤ j := hj
    have := HX13.out.lt
    omega
end Go.Proofs.YtdbnddmncbjobaaGreatDoor

/- The reference's Same: walked. -/
namespace Go.Proofs.YtdbnddmncbjobaaGreatDoor
open Go Go.RowKit
attribute [local go_sem] Oper.semAt_some

theorem dnCat (w : World) (m x k : Nat) : (w.drewN (m + x)).drewN k = w.drewN (m + (x + k)) := by simp [World.drewN, Nat.add_assoc]
def kIt : Lay (List UInt8 × List Ct) := kStr.pair kCt.list
theorem it_at {W : World} {P : Nat → Prop} {A : Option Addr} {n : Nat} {xs : Tb} (h : kIt.row W P A n xs) {i : Nat} {x : List UInt8 × List Ct} (hi : xs[i]? = some x) :
    ∃ b off A2 n2 c2, A = some ⟨b, off, none⟩ ∧ b < W.heap.size ∧ W.cell? ⟨b, off + i * 2, none⟩ = some (.string ⟨x.1.toArray⟩) ∧ W.cell? ⟨b, off + i * 2 + 1, none⟩ = some (.slice A2 n2 c2) ∧ n2 ≤ c2 ∧ kCt.row W P A2 n2 x.2 := by
  obtain ⟨b, off, cs, rfl, hb, _, ⟨ca, cb, rfl, h1, A2, n2, c2, rfl, h2, h3⟩, hc⟩ := Lay.row_at h hi
  have h1' : ca = [.string ⟨x.1.toArray⟩] := h1
  subst h1'
  exact ⟨b, off, A2, n2, c2, rfl, hb, hc 0 _ rfl, hc 1 _ rfl, h2, h3⟩
def SbR (w : World) (n : Nat) (xs ys : Tb) (s5 : Value) (W : World) : Prop := ∃ i : Nat, i ≤ n ∧ s5 = .int .i64 i ∧ xs.take i = ys.take i ∧ ∃ q, W = w.drewN q
set_option maxHeartbeats 4000000 in
set_option maxRecDepth 100000 in
theorem same_any (P Q : Nat → Prop) (w : World) (xs ys : Tb) (hx9 : ∀ x ∈ xs ++ ys, x.2.length ≤ 100000000) (A A' : Option Addr) (n n' c c' : Nat) (h : kIt.row w P A n xs) (h' : kIt.row w Q A' n' ys) (hn : n ≤ 100000000) (hn' : n' ≤ 100000000) :
    Calls Tryz.prog 18 #[.slice A n c, .slice A' n' c'] w fun e w' => e = .returned (.bool (decide (xs = ys))) ∧ ∃ q, w' = w.drewN q := by
  have HL := Lib.hid (Lay.row_len h)
  have HL' := Lib.hid (Lay.row_len h')
  have HR := Lib.hid h
  have HR' := Lib.hid h'
  obtain ⟨r, hr⟩ : ∃ r, decide (xs = ys) = r := ⟨_, rfl⟩
  rw [hr]
  have HV := Lib.hid hr
  clear h h' hr
  by_cases hne : n = n'
  case neg =>
    have d : ((n : Int) != (n' : Int)) = true := by simp; omega
    have hF : r = false := by rw [← HV.out]; exact decide_eq_false fun e => hne (by rw [HL.out, HL'.out, e])
    subst hF
    go_enter Tryz.func18, Tryz.ntmps18
    go_wp2_with fail
    go_ret
    exact ⟨rfl, 0, rfl⟩
  subst hne
  go_enter Tryz.func18, Tryz.ntmps18
  go_wp2_with fail
  go_loopw [5] (fun s5 W => SbR w n xs ys s5 W) (fun s5 _ => toM n s5)
  case atStart => exact ⟨0, by omega, rfl, rfl, 0, rfl⟩
  case round =>
    obtain ⟨i, hi, rfl, hp, q, rfl⟩ := hrel
    have HP := Lib.hid hp
    clear hp
    by_cases hlt : i < n
    case neg =>
      obtain rfl : i = n := by omega
      have hni : ¬ ((i : Int) < (i : Int)) := by omega
      have hF : r = true := by
        rw [← HV.out]
        have := HP.out
        rw [HL.out, List.take_length] at this
        rw [← HL.out, HL'.out, List.take_length] at this
        exact decide_eq_true this
      subst hF
      go_wp2_with fail
      go_ret
      exact ⟨rfl, q, rfl⟩
    have hI : (i : Int) < (n : Int) := by omega
    obtain ⟨x, hx⟩ : ∃ x, xs[i]? = some x := ⟨_, List.getElem?_eq_getElem (by have := HL.out; omega)⟩
    obtain ⟨y, hy⟩ : ∃ y, ys[i]? = some y := ⟨_, List.getElem?_eq_getElem (by have := HL'.out; omega)⟩
    obtain ⟨b, off, A2, n2, c2, rfl, _, a0, a1, _, ra⟩ := it_at HR.out hx
    obtain ⟨b', off', A3, n3, c3, rfl, _, b0, b1, _, rb⟩ := it_at HR'.out hy
    have hx1 := hx9 x (List.mem_append_left _ (List.mem_of_getElem? hx))
    have hy1 := hx9 y (List.mem_append_right _ (List.mem_of_getElem? hy))
    have l2 := Lay.row_len ra
    have l3 := Lay.row_len rb
    have HX := Lib.hid hx
    have HY := Lib.hid hy
    clear hx hy
    have HS := Lib.hid (fun q => samec_any P Q (w.drewN q) x.2 y.2 A2 A3 n2 n3 c2 c3 ra rb (by omega) (by omega))
    clear ra rb l2 l3 hx1 hy1
    obtain ⟨xk, xl⟩ := x
    obtain ⟨yk, yl⟩ := y
    simp only at a0 a1 b0 b1 HS
    by_cases hk : xk = yk
    · subst hk
      by_cases hl : xl = yl
      · subst hl
        rw [show decide (xl = xl) = true from decide_eq_true rfl] at HS
        go_upto_region 6 with (fail)
        go_quiet (first | (go_at_call 27; refine (HS.out _).mono ?_; rintro e w1 ⟨rfl, k, rfl⟩; exact ⟨rfl, _, dnCat _ _ _ _⟩))
        go_wp2_with fail
        go_roundw
        case rel => exact ⟨i + 1, by omega, by go_num, take_eq HP.out HX.out HY.out rfl, _, rfl⟩
        case measure => simp only [toM]; omega
      · rw [decide_eq_false hl] at HS
        have hF : r = false := by
          rw [← HV.out]
          exact decide_eq_false fun e => hl (by have h9 := HX.out; rw [e, HY.out] at h9; injection h9 with h9; injection h9 with _ h9; exact h9.symm)
        subst hF
        clear hl
        go_upto_region 6 with (fail)
        go_quiet (first | (go_at_call 27; refine (HS.out _).mono ?_; rintro e w1 ⟨rfl, k, rfl⟩; exact ⟨rfl, _, dnCat _ _ _ _⟩))
        go_wp2_with fail
        go_ret
        exact ⟨rfl, q + nq, by simp [World.drewN, Nat.add_assoc]⟩
    · have d1 : (xk == yk) = false := by simpa using hk
      have hF : r = false := by
        rw [← HV.out]
        exact decide_eq_false fun e => hk (by have h9 := HX.out; rw [e, HY.out] at h9; injection h9 with h9; injection h9 with h9 _; exact h9.symm)
      subst hF
      clear hk
      go_upto_region 6 with (fail)
      go_quiet (fail)
      go_wp2_with fail
      go_ret
      exact ⟨rfl, q + nq, by simp [World.drewN, Nat.add_assoc]⟩
end Go.Proofs.YtdbnddmncbjobaaGreatDoor

/- The reference's Put: walked. -/
namespace Go.Proofs.YtdbnddmncbjobaaGreatDoor
open Go Go.RowKit
attribute [local go_sem] Oper.semAt_some

theorem kIt_rep {W : World} {P : Nat → Prop} {x : List UInt8 × List Ct} {cs : List Value} : kIt.rep W P x cs ↔ ∃ A n c, cs = [.string ⟨x.1.toArray⟩, .slice A n c] ∧ n ≤ c ∧ kCt.row W P A n x.2 := by
  constructor
  · rintro ⟨_, _, rfl, rfl, A, n, c, rfl, h1, h2⟩; exact ⟨A, n, c, rfl, h1, h2⟩
  · rintro ⟨A, n, c, rfl, h1, h2⟩; exact ⟨_, _, rfl, rfl, A, n, c, rfl, h1, h2⟩
theorem kIt_sz : kIt.sz = 2 := rfl
end Go.Proofs.YtdbnddmncbjobaaGreatDoor

/- The reference's Table: walked. -/
namespace Go.Proofs.YtdbnddmncbjobaaGreatDoor
open Go Go.RowKit
attribute [local go_sem] Oper.semAt_some

/-- A table in memory, with at most M places. -/
structure TbV (W : World) (A : Option Addr) (n c : Nat) (T : Tb) (M : Nat) : Prop where
  row : kIt.row W (fun _ => True) A n T
  nc : n ≤ c
  reg : Reg T
  len : (prs T).length ≤ M
  key : ∀ x ∈ T, x.1.length ≤ 1000
theorem TbV.ext {W W' : World} {A : Option Addr} {n c : Nat} {T : Tb} {M : Nat} (h : TbV W A n c T M) (hx : Ext W W') : TbV W' A n c T M := ⟨Lay.row_ext h.row hx, h.nc, h.reg, h.len, h.key⟩
theorem TbV.n {W : World} {A : Option Addr} {n c : Nat} {T : Tb} {M : Nat} (h : TbV W A n c T M) : n = T.length ∧ n ≤ M ∧ ∀ x ∈ T, x.2.length ≤ M := by
  have h1 := Lay.row_len h.row
  have h2 := prs_le h.reg.some
  have h3 := h.len
  exact ⟨h1, by omega, fun x hx => Nat.le_trans (prs_mem_le hx) h.len⟩
theorem TbV.nil (W : World) (M : Nat) : TbV W none 0 0 [] M := ⟨Lay.row_nil _ _ _, Nat.le_refl _, reg_nil, Nat.zero_le _, fun x hx => by cases hx⟩
theorem TbV.mono {W : World} {A : Option Addr} {n c : Nat} {T : Tb} {M M' : Nat} (h : TbV W A n c T M) (hm : M ≤ M') : TbV W A n c T M' := ⟨h.row, h.nc, h.reg, Nat.le_trans h.len hm, h.key⟩
end Go.Proofs.YtdbnddmncbjobaaGreatDoor

/- Finding a key, in the reference and by binary search: walked. -/
namespace Go.Proofs.YtdbnddmncbjobaaGreatDoor
open Go Go.RowKit
attribute [local go_sem] Oper.semAt_some

theorem own_empty {β : Type} {k : Lay β} {e : TypeId} {X : World} {base : Nat} {P : Nat → Prop} (hb : base ≤ X.heap.size) : k.own e (X.alloc (.cells #[] e)) base P (.slice (some ⟨X.heap.size, 0, none⟩) 0 0) [] :=
  ⟨[], ⟨by simp [gcells], .inr ⟨X.heap.size, 0, #[], rfl, hb, heap_alloc_new X _, Nat.le_refl _, by simp [maxLen], by simp, by simp [gcells]⟩⟩, rfl, fun i d x hd => by simp at hd⟩
/-- A copy of places behind an empty slice. -/
theorem cp_ct {P : Nat → Prop} {w X : World} {A : Option Addr} {n c : Nat} {l : List Ct} (hr : kCt.row w P A n l) (hX : Ext w X) (hn : n ≤ 40000000) :
    ∃ A' c' w', (Builtin.append_ #[38, 38] 38 #[.slice (some ⟨X.heap.size, 0, none⟩) 0 0, .slice A n c]).run Tryz.prog (X.alloc (.cells #[] 69)) = .ok (.slice A' n c') w' ∧ n ≤ c' ∧ kCt.row w' (fun j => P j ∨ w.heap.size ≤ j) A' n l ∧ Ext w w' := by
  obtain ⟨A', c', w', r, o, hx⟩ := own_app (k := kCt) (Pr := Tryz.prog) (t := 38) (e := 69) Tryz.underlying38 info69 rfl (by decide) (by omega) (own_empty (P := P) (Nat.le_trans hX.lt (Nat.le_refl _))) (hX.alloc _) hr c (by simp; omega)
  simp only [List.length_nil, Nat.zero_add, List.nil_append] at r o
  obtain ⟨h1, h2⟩ := own_rowQ o
  exact ⟨A', c', w', r, h1, h2, hx⟩
theorem findP_take {T : Tb} {k : List UInt8} {i : Nat} {y : List UInt8 × List Ct} (h : ∀ y ∈ T.take i, y.1 ≠ k) (hy : T[i]? = some y) (hk : y.1 = k) : findP T k = some y.2 := by
  unfold findP
  have : T.find? (fun x => x.1 == k) = some y := by
    obtain ⟨hi, rfl⟩ := List.getElem?_eq_some_iff.1 hy
    conv => lhs; rw [← List.take_append_drop i T, List.drop_eq_getElem_cons hi]
    rw [List.find?_append, List.find?_eq_none.2 (fun x hx => by simpa using h x hx), Option.none_or, List.find?_cons, show (T[i].1 == k) = true by simpa using hk]
  rw [this]; rfl
theorem find_nope {T : Tb} {k : List UInt8} (h : ∀ y ∈ T, y.1 ≠ k) : findP T k = none := by
  unfold findP
  rw [List.find?_eq_none.2 (fun x hx => by simpa using h x hx)]; rfl
/-- What both ways of finding a key give. -/
def FindGet (w : World) (T : Tb) (k : List UInt8) (e : Ending) (w' : World) : Prop := ∃ A n c, e = .returned (.tuple #[.slice A n c, .bool (findP T k).isSome]) ∧ n ≤ c ∧ kCt.row w' (fun _ => True) A n (plc T k) ∧ Ext w w'
theorem FindGet.no {w w' : World} {T : Tb} {k : List UInt8} (h : findP T k = none) (hx : Ext w w') : FindGet w T k (.returned (.tuple #[.slice none 0 0, .bool false])) w' := by
  refine ⟨none, 0, 0, by rw [h]; rfl, Nat.le_refl _, ?_, hx⟩
  unfold plc; rw [h]; exact Lay.row_nil _ _ _
theorem FindGet.yes {w w' : World} {T : Tb} {k : List UInt8} {l : List Ct} {A : Option Addr} {n c : Nat} (h : findP T k = some l) (hc : n ≤ c) {P : Nat → Prop} (hr : kCt.row w' P A n l) (hx : Ext w w') : FindGet w T k (.returned (.tuple #[.slice A n c, .bool true])) w' := by
  refine ⟨A, n, c, by rw [h]; rfl, hc, ?_, hx⟩
  unfold plc; rw [h]; exact Lay.row_mono hr fun _ _ _ => trivial
/-- slices.Clone of places. -/
theorem clone_ct (P : Nat → Prop) (w : World) (A : Option Addr) (n c : Nat) (l : List Ct) (h : kCt.row w P A n l) (hn : n ≤ 40000000) :
    Calls Tryz.prog 69 #[.slice A n c] w fun e w' => ∃ A' c', e = .returned (.slice A' n c') ∧ n ≤ c' ∧ kCt.row w' (fun j => P j ∨ w.heap.size ≤ j) A' n l ∧ Ext w w' := by
  have q38 := fun (w : World) (a : Option Addr) (n c n' c' : Nat) => Lib.run_eql_slice_nil (P := Tryz.prog) w _ _ a n c n' c' Tryz.underlying38
  cases A with
  | none =>
    obtain rfl := row_A h rfl
    have hl := List.eq_nil_of_length_eq_zero (Lay.row_len h).symm
    subst hl
    go_enter Tryz.func69, Tryz.ntmps69
    go_wp2_with fail
    go_ret
    exact ⟨none, 0, rfl, Nat.le_refl _, Lay.row_nil _ _ _, Ext.refl _⟩
  | some a =>
    obtain ⟨A', c', w', r, hc', hr', hx'⟩ := cp_ct (c := c) h (Ext.refl w) hn
    have RUN := Lib.hid r
    have HR' := Lib.hid hr'
    have HX' := Lib.hid hx'
    clear h r hr' hx'
    go_enter Tryz.func69, Tryz.ntmps69
    go_wp2_with (first | (at_builtin; refine wpList_append_run (s := .tmp 5) (x := .tmp 6) RUN.out rfl rfl rfl rfl rfl ?_))
    go_ret
    exact ⟨A', c', rfl, hc', HR'.out, HX'.out⟩
set_option maxRecDepth 100000 in
theorem fcmp_any (a b : List UInt8) (u : Value) (w : World) : Calls Tryz.prog 67 #[.agg #[.string ⟨a.toArray⟩, u], .string ⟨b.toArray⟩] w fun e w' => e = .returned (.int .i64 (Lib.compareBytes a b)) ∧ Ext w w' := by
  have HC := Lib.hid (fun W => strcmp_any a b W)
  generalize Lib.compareBytes a b = r at HC ⊢
  have HX := Lib.hid ((Ext.refl w).alloc (.cells #[.string ⟨a.toArray⟩, u] 99))
  go_enter Tryz.func67, Tryz.ntmps67
  go_wp2_with (go_at_call 68; refine (HC.out _).mono ?_; rintro e w9 ⟨rfl, rfl⟩)
  go_ret
  exact ⟨rfl, HX.out⟩
theorem bs_find {T : Tb} (hT : Reg T) {k : List UInt8} {i : Nat} (h1 : ∀ y ∈ T.take i, sLt y.1 k = true) (h2 : ∀ y ∈ T.drop i, sLt y.1 k = false) : findP T k = match T[i]? with | some y => if y.1 = k then some y.2 else none | none => none := by
  cases hy : T[i]? with
  | none =>
    have : ∀ y ∈ T, y.1 ≠ k := fun y hm => sLt_ne (h1 y (by rw [List.take_of_length_le (by rw [List.getElem?_eq_none_iff] at hy; exact hy)]; exact hm))
    exact find_nope this
  | some y =>
    simp only
    split
    · next e => exact findP_take (fun y hm => sLt_ne (h1 y hm)) hy e
    · next e =>
      refine find_nope fun y' hm => ?_
      rw [← List.take_append_drop i T] at hm
      rcases List.mem_append.1 hm with hm | hm
      · exact sLt_ne (h1 y' hm)
      · obtain ⟨hi, rfl⟩ := List.getElem?_eq_some_iff.1 hy
        have hd : T.drop i = T[i] :: T.drop (i + 1) := List.drop_eq_getElem_cons hi
        have hpw := hT.keys
        rw [← List.take_append_drop i T, List.pairwise_append, hd, List.pairwise_cons] at hpw
        have h3 := h2 T[i] (by rw [hd]; exact .head _)
        rw [hd] at hm
        rcases List.mem_cons.1 hm with rfl | hm
        · exact e
        · intro e2
          have := hpw.2.1.1 y' hm
          rw [e2, h3] at this
          cases this
theorem bs_lt {T : Tb} (hT : Reg T) {k : List UInt8} {h : Nat} {y : List UInt8 × List Ct} (hy : T[h]? = some y) (hs : sLt y.1 k = true) : ∀ y' ∈ T.take (h + 1), sLt y'.1 k = true := by
  obtain ⟨hi, rfl⟩ := List.getElem?_eq_some_iff.1 hy
  intro y' hm
  obtain ⟨j, hj⟩ := List.getElem?_of_mem hm
  rw [List.getElem?_take] at hj
  split at hj
  · next hjh =>
    obtain ⟨hj1, rfl⟩ := List.getElem?_eq_some_iff.1 hj
    rcases Nat.lt_or_ge j h with h9 | h9
    · exact sLt_trans (List.pairwise_iff_getElem.1 hT.keys j h hj1 hi h9) hs
    · obtain rfl : j = h := by omega
      exact hs
  · cases hj
theorem bs_ge {T : Tb} (hT : Reg T) {k : List UInt8} {h : Nat} {y : List UInt8 × List Ct} (hy : T[h]? = some y) (hs : sLt y.1 k = false) : ∀ y' ∈ T.drop h, sLt y'.1 k = false := by
  obtain ⟨hi, rfl⟩ := List.getElem?_eq_some_iff.1 hy
  intro y' hm
  obtain ⟨j, hj⟩ := List.getElem?_of_mem hm
  rw [List.getElem?_drop] at hj
  obtain ⟨hj1, rfl⟩ := List.getElem?_eq_some_iff.1 hj
  rcases Nat.eq_zero_or_pos j with h9 | h9
  · subst h9; exact hs
  · cases h8 : sLt T[h + j].1 k with
    | false => rfl
    | true => rw [sLt_trans (List.pairwise_iff_getElem.1 hT.keys h (h + j) hi hj1 (by omega)) h8] at hs; cases hs
def BsR (w : World) (T : Tb) (k : List UInt8) (s9 s10 : Value) (W : World) : Prop := ∃ i j : Nat, i ≤ j ∧ j ≤ T.length ∧ s9 = .int .i64 i ∧ s10 = .int .i64 j ∧ (∀ y ∈ T.take i, sLt y.1 k = true) ∧ (∀ y ∈ T.drop j, sLt y.1 k = false) ∧ Ext w W
def bsM (s9 s10 : Value) : Nat := match s9, s10 with | .int _ a, .int _ b => (b - a).toNat | _, _ => 0
set_option maxHeartbeats 4000000 in
set_option maxRecDepth 100000 in
theorem bsearch_any (w : World) (T : Tb) (k : List UInt8) (A : Option Addr) (n c M : Nat) (h : TbV w A n c T M) (hM : M ≤ 40000000) :
    Calls Tryz.prog 66 #[.slice A n c, .string ⟨k.toArray⟩, .func (.func 67) #[] #[]] w fun e w' => ∃ i : Nat, e = .returned (.tuple #[.int .i64 i, .bool (findP T k).isSome]) ∧ (∀ l, findP T k = some l → ∃ y, T[i]? = some y ∧ y.2 = l) ∧ Ext w w' := by
  have HR := Lib.hid h.row
  obtain ⟨hn, hnM, hlm⟩ := h.n
  have HL := Lib.hid hn
  have HREG := Lib.hid h.reg
  have HCP := Lib.hid (fun a u W => fcmp_any a k u W)
  clear h hn hlm
  go_enter Tryz.func66, Tryz.ntmps66
  go_wp2_with fail
  go_loopw [9, 10] (fun s9 s10 W => BsR w T k s9 s10 W) (fun s9 s10 _ => bsM s9 s10)
  case atStart => exact ⟨0, n, by omega, by rw [HL.out]; exact Nat.le_refl _, rfl, rfl, by simp, by rw [HL.out, List.drop_length]; simp, Ext.refl _⟩
  case round =>
    obtain ⟨i, j, hij, hj, rfl, rfl, hp, hq, hx⟩ := hrel
    rw [← HL.out] at hj
    have HP := Lib.hid hp
    have HQ := Lib.hid hq
    have HX := Lib.hid hx
    clear hp hq hx
    by_cases hlt : i < j
    case neg =>
      obtain rfl : i = j := by omega
      have hni : ¬ ((i : Int) < (i : Int)) := by omega
      have HF := Lib.hid (bs_find HREG.out HP.out HQ.out)
      by_cases hin : i < n
      · obtain ⟨y, hy⟩ : ∃ y, T[i]? = some y := ⟨_, List.getElem?_eq_getElem (by have := HL.out; omega)⟩
        obtain ⟨b, off, A2, n2, c2, rfl, hb, a0, a1, _, _⟩ := it_at (Lay.row_ext HR.out HX.out) hy
        have HY := Lib.hid hy
        have hinI : (i : Int) < (n : Int) := by omega
        have HCY := Lib.hid (fun W => HCP.out y.1 (.slice A2 n2 c2) W)
        rw [hy] at HF
        clear hy
        by_cases hk : y.1 = k
        · have h0 : Lib.compareBytes y.1 k = 0 := (cmpB_eq _ _).2 hk
          have HF' := Lib.hid (HF.out.trans (if_pos hk))
          rw [h0] at HCY
          clear hk h0
          go_wp2_with (first | (go_at_call 67; refine (HCY.out _).mono ?_; rintro e w2 ⟨rfl, hx2⟩; have HX2 := Lib.hid hx2; clear hx2))
          refine bodyPost_ret (v := .tuple #[.int .i64 (i : Int), .bool true]) (by simp [results, Tryz.results66, go_sem]) rfl ?_
          exact ⟨i, by rw [HF'.out]; rfl, fun l hl => ⟨y, HY.out, by rw [HF'.out] at hl; exact Option.some.inj hl⟩, HX.out.trans HX2.out⟩
        · have h0 : Lib.compareBytes y.1 k ≠ 0 := fun e => hk ((cmpB_eq _ _).1 e)
          have HF' := Lib.hid (HF.out.trans (if_neg hk))
          generalize Lib.compareBytes y.1 k = r at HCY h0
          have h00 : (r == 0) = false := by simpa using h0
          clear hk h0
          go_wp2_with (first | (go_at_call 67; refine (HCY.out _).mono ?_; rintro e w2 ⟨rfl, hx2⟩; have HX2 := Lib.hid hx2; clear hx2))
          refine bodyPost_ret (v := .tuple #[.int .i64 (i : Int), .bool false]) (by simp [results, Tryz.results66, go_sem]) rfl ?_
          exact ⟨i, by rw [HF'.out]; rfl, fun l hl => (by rw [HF'.out] at hl; cases hl), HX.out.trans HX2.out⟩
      · have hinI : ¬ ((i : Int) < (n : Int)) := by omega
        have hinb : decide ((i : Int) < (n : Int)) = false := decide_eq_false hinI
        have HF' := Lib.hid (show findP T k = none by have h9 := HF.out; rw [List.getElem?_eq_none (by have := HL.out; omega)] at h9; exact h9)
        go_wp2_with fail
        refine bodyPost_ret (v := .tuple #[.int .i64 (i : Int), .bool false]) (by simp [results, Tryz.results66, go_sem]) rfl ?_
        exact ⟨i, by rw [HF'.out]; rfl, fun l hl => (by rw [HF'.out] at hl; cases hl), HX.out⟩
    have hI : (i : Int) < (j : Int) := by omega
    obtain ⟨h, hh, hih, hhj⟩ : ∃ h : Nat, ((i : Int) + (j : Int)) / 2 = (h : Int) ∧ i ≤ h ∧ h < j := ⟨(i + j) / 2, by omega, by omega, by omega⟩
    obtain ⟨y, hy⟩ : ∃ y, T[h]? = some y := ⟨_, List.getElem?_eq_getElem (by have := HL.out; omega)⟩
    obtain ⟨b, off, A2, n2, c2, rfl, hb, a0, a1, _, _⟩ := it_at (Lay.row_ext HR.out HX.out) hy
    have hhI : (h : Int) < (n : Int) := by omega
    have HCY := Lib.hid (fun W => HCP.out y.1 (.slice A2 n2 c2) W)
    have HLE := Lib.hid (cmpB_lt y.1 k)
    generalize Lib.compareBytes y.1 k = r at HCY HLE
    have hw1 : IntKind.i64.wrap ((h : Int) + 1) = (h : Int) + 1 := IntWalk.i64_in _ (by omega)
    cases hs : sLt y.1 k with
    | true =>
      have hr0 : r < 0 := HLE.out.2 hs
      have HN := Lib.hid (bs_lt HREG.out hy hs)
      clear hs hy
      go_wp2_with (first | (go_at_call 67; refine (HCY.out _).mono ?_; rintro e w2 ⟨rfl, hx2⟩; have HX2 := Lib.hid hx2; clear hx2))
      go_roundw
      case rel => exact ⟨h + 1, j, by omega, by have := HL.out; omega, by go_num, rfl, HN.out, HQ.out, HX.out.trans HX2.out⟩
      case measure => simp only [bsM]; omega
    | false =>
      have hr0 : ¬ r < 0 := fun h9 => by rw [HLE.out.1 h9] at hs; cases hs
      have HN := Lib.hid (bs_ge HREG.out hy hs)
      clear hs hy
      go_wp2_with (first | (go_at_call 67; refine (HCY.out _).mono ?_; rintro e w2 ⟨rfl, hx2⟩; have HX2 := Lib.hid hx2; clear hx2))
      go_roundw
      case rel => exact ⟨i, h, hih, by have := HL.out; omega, rfl, rfl, HP.out, HN.out, HX.out.trans HX2.out⟩
      case measure => simp only [bsM]; omega
set_option maxHeartbeats 4000000 in
set_option maxRecDepth 100000 in
/-- index.Find. -/
theorem ifind_any (w : World) (T : Tb) (k : List UInt8) (A : Option Addr) (n c M : Nat) (h : TbV w A n c T M) (hM : M ≤ 40000000) : Calls Tryz.prog 23 #[.slice A n c, .string ⟨k.toArray⟩] w (FindGet w T k) := by
  have HB := Lib.hid (bsearch_any w T k A n c M h hM)
  have HR := Lib.hid h.row
  obtain ⟨hn, hnM, hlm⟩ := h.n
  have HL := Lib.hid hn
  have HM := Lib.hid hlm
  clear h hn hlm
  cases hf : findP T k with
  | none =>
    have HF := Lib.hid hf
    clear hf
    rw [HF.out] at HB
    go_enter Tryz.func23, Tryz.ntmps23
    go_wp2_with (first | (go_at_call 66; refine (HB.out).mono ?_; rintro e w2 ⟨i, rfl, _, hx2⟩; have HX2 := Lib.hid hx2; clear hx2))
    refine bodyPost_ret (v := .tuple #[.slice none 0 0, .bool false]) (by simp [results, Tryz.results23, go_sem]) rfl ?_
    exact FindGet.no HF.out HX2.out
  | some l =>
    have HF := Lib.hid hf
    clear hf
    rw [HF.out] at HB
    go_enter Tryz.func23, Tryz.ntmps23
    go_upto_region 4 with (first | (go_at_call 66; refine (HB.out).mono ?_; rintro e w2 ⟨i, rfl, hl, hx2⟩; have HX2 := Lib.hid hx2; have HLI := Lib.hid (hl l rfl); clear hl hx2))
    obtain ⟨y, hy, hyl⟩ := HLI.out
    obtain ⟨b, off, A2, n2, c2, rfl, hb, a0, a1, hnc2, hr2⟩ := it_at (Lay.row_ext HR.out HX2.out) hy
    have hin : (i : Int) < (n : Int) := by have := (List.getElem?_eq_some_iff.1 hy).1; have := HL.out; omega
    have hn2 : n2 ≤ 40000000 := by rw [Lay.row_len hr2]; exact Nat.le_trans (HM.out y (List.mem_of_getElem? hy)) hM
    rw [hyl] at hr2
    have HC := Lib.hid (clone_ct _ w2 A2 n2 c2 l hr2 hn2)
    clear hy hyl hr2
    go_wp2_with (first | (go_at_call 69; refine (HC.out).mono ?_; rintro e w3 ⟨A3, c3, rfl, hc3, hr3, hx3⟩; have HR3 := Lib.hid hr3; have HX3 := Lib.hid hx3; clear hr3 hx3))
    refine bodyPost_ret (v := .tuple #[.slice A3 n2 c3, .bool true]) (by simp [results, Tryz.results23, go_sem]) rfl ?_
    exact FindGet.yes HF.out hc3 HR3.out (HX2.out.trans HX3.out)
end Go.Proofs.YtdbnddmncbjobaaGreatDoor

/- A row of items as they lie: sorted by their keys. -/
namespace Go.Proofs.YtdbnddmncbjobaaGreatDoor
open Go Go.RowKit Go.Sort
attribute [local go_sem] Oper.semAt_some

theorem itCs_one (x : ItV) : ∀ u ∈ itCs x, u.oneCell' = true := fun u hu => by
  simp only [itCs, List.mem_cons, List.not_mem_nil, or_false] at hu
  rcases hu with rfl | rfl <;> rfl
/-- Items as they lie: a key and a slice. -/
def kIv : Lay ItV where
  sz := 2
  rep _ _ x cs := cs = itCs x
  len h := by subst h; rfl
  one h := by subst h; exact itCs_one _
  keep h _ _ := h
  mono h _ := h
theorem iv_cells {W : World} {B : Nat} {P : Nat → Prop} {v : Value} {xs : List ItV} (h : kIv.own 99 W B P v xs) : W.ownsRow B 99 2 v xs.length (xs.flatMap itCs) := by
  obtain ⟨ds, h1, h2, h3⟩ := h
  have e : gcells ccf ds = xs.flatMap itCs := by
    have : ∀ (ds : List (Cs kIv.sz)) (xs : List ItV), ds.length = xs.length → (∀ (i : Nat) (d : Cs kIv.sz) (x : ItV), ds[i]? = some d → xs[i]? = some x → ccf d = itCs x) → gcells ccf ds = xs.flatMap itCs := by
      intro ds
      induction ds with
      | nil => intro xs hl _; cases xs with
        | nil => rfl
        | cons x xs => simp at hl
      | cons d ds ih => intro xs hl hh; cases xs with
        | nil => simp at hl
        | cons x xs =>
          have h0 := hh 0 d x rfl rfl
          have h1 := ih xs (by simpa using hl) fun i d x hd hx => hh (i + 1) d x (by simpa using hd) (by simpa using hx)
          unfold gcells at h1 ⊢
          rw [List.flatMap_cons, List.flatMap_cons, h0, h1]
    exact this ds xs h2 fun i d x hd hx => h3 i d x hd hx
  unfold OL at h1
  rw [h2, e] at h1
  exact h1
def ivC (x : ItV) : Cs kIv.sz := ⟨itCs x, rfl, itCs_one x⟩
theorem gcells_ivC (xs : List ItV) : gcells ccf (xs.map ivC) = xs.flatMap itCs := by
  induction xs with
  | nil => rfl
  | cons x xs ih => unfold gcells at ih ⊢; rw [List.map_cons, List.flatMap_cons, List.flatMap_cons, ih]; rfl
theorem cells_iv {W : World} {B : Nat} {P : Nat → Prop} {v : Value} {xs : List ItV} (h : W.ownsRow B 99 2 v xs.length (xs.flatMap itCs)) : kIv.own 99 W B P v xs := by
  refine ⟨xs.map ivC, ?_, List.length_map _, fun i d x hd hx => ?_⟩
  · unfold OL
    rw [gcells_ivC, List.length_map]
    exact h
  · rw [List.getElem?_map, hx] at hd
    simp only [Option.map_some, Option.some.injEq] at hd
    subst hd
    rfl
instance : Inhabited ItV := ⟨⟨[], none, 0, 0⟩⟩
theorem sort_iown (w : World) (B : Nat) (v : Value) (xs : List ItV) (h : kIv.own 99 w B (fun _ => False) v xs) (hne : xs ≠ []) (hl : xs.length ≤ 100000000) :
    Calls Tryz.prog 114 #[v, .func (.func 115) #[] #[]] w fun e w' => e = .returned (.tuple #[]) ∧ ∃ ys, ys.Perm xs ∧ (ys.Pairwise fun a b => sLt b.1 a.1 = false) ∧ kIv.own 99 w' B (fun _ => False) v ys ∧ w.grownBy w' v.ownBlock := by
  have hc := iv_cells h
  rcases hc.2 with ⟨_, h0⟩ | ⟨g, cap, cur, rfl, hbase, hb, h1, h2, h3, h4⟩
  · exact absurd (List.length_eq_zero_iff.1 h0) hne
  have hk : ∀ x, (itCs x).length = 2 := fun _ => rfl
  have hg : g < w.heap.size := (Array.getElem?_eq_some_iff.1 hb).1
  have hs := sort_it g cap xs.toArray w (holdsK_block hk hb h4) hg (by simp; omega)
  rw [List.size_toArray] at hs
  refine hs.mono ?_
  rintro e w' ⟨he, d', n, os, hp, hsr, rfl⟩
  have hsz : d'.size = xs.length := by have := hp.1; simpa using this
  have hp' : d'.toList.Perm xs := by
    have := perm_all (d := xs.toArray) (d' := d') (by simpa using hp)
    simpa using this
  refine ⟨he, d'.toList, hp', ?_, ?_, ?_⟩
  · refine (sorted_all (by rw [hsz]) hsr).imp fun {a b} hab => ?_
    simp only [ltOf, decide_eq_false_iff_not, cmpB_lt] at hab
    simpa using hab
  · have h9 := ownsRow_sortedK (enc := itCs) hk (w := w) (base := B) (g := g) (cap := cap) (n := n) (os := os) (ts := d'.toList) (m := xs.length) (by simpa using hsz) hbase hb h1 h2 h3
    have e2 : d'.toList.length = xs.length := by simpa using hsz
    rw [← e2] at h9 ⊢
    exact cells_iv (by simpa using h9)
  · exact grown_sortedK d'
set_option maxHeartbeats 2000000 in
theorem ins_none (p : Option Addr) (cap : Nat) (fv : Value) (w : World) : Calls Tryz.prog 170 #[.slice p 0 cap, .int .i64 0, .int .i64 0, fv] w fun e w' => e = .returned (.tuple #[]) ∧ w' = w := by
  go_enter Tryz.func170, Tryz.ntmps170
  go_wp2
  refine wp_loop_rounds 1 ?_
  rw [rounds_succ]
  go_wp2
  go_end0
  exact ⟨rfl, rfl⟩
set_option maxHeartbeats 2000000 in
theorem pdq_none (p : Option Addr) (cap : Nat) (lim : Int) (fv : Value) (w : World) : Calls Tryz.prog 144 #[.slice p 0 cap, .int .i64 0, .int .i64 0, .int .i64 lim, fv] w fun e w' => e = .returned (.tuple #[]) ∧ w' = w := by
  have HI := Lib.hid (fun W => ins_none p cap fv W)
  go_enter Tryz.func144, Tryz.ntmps144
  go_wp2
  refine wp_loop_rounds 1 ?_
  rw [rounds_succ]
  go_wp2_with (first | (go_at_call 170; refine (HI.out _).mono ?_; rintro e w' ⟨rfl, rfl⟩))
  (try simp only [Exit.inBlock, Exit.then]); refine bodyPost_ret (results_none rfl _ _ _) rfl ?_
  exact ⟨rfl, rfl⟩
theorem sort_none (p : Option Addr) (cap : Nat) (fv : Value) (w : World) : Calls Tryz.prog 114 #[.slice p 0 cap, fv] w fun e w' => e = .returned (.tuple #[]) ∧ w' = w := by
  have HP := Lib.hid (fun lim W => pdq_none p cap lim fv W)
  have HB := Lib.hid (fun W => (show Calls Tryz.prog 141 #[.int .u64 0] W fun e w' => e = .returned (.int .i64 (Lib.bitLen 0 : Nat)) ∧ w' = W from Any.bits_Len (SlLaysF0.n15.bits (P := Tryz.prog) (ρ := Tryz.sortIt_ren) { Tryz.sortIt with }) 0 W (by omega) (by omega)))
  go_enter Tryz.func114, Tryz.ntmps114
  go_wp2_with (first
    | (go_at_call 141; refine (HB.out _).mono ?_; rintro e w' ⟨rfl, rfl⟩)
    | (go_at_call 144; refine (HP.out _ _).mono ?_; rintro e w' ⟨rfl, rfl⟩))
  go_end0
  exact ⟨rfl, rfl⟩
end Go.Proofs.YtdbnddmncbjobaaGreatDoor

/- The reference's Merge: walked. -/
namespace Go.Proofs.YtdbnddmncbjobaaGreatDoor
open Go Go.RowKit
attribute [local go_sem] Oper.semAt_some

/-- The table of hits in memory. -/
abbrev TbH (W : World) (A : Option Addr) (n c : Nat) (hs : List (List UInt8 × Ct)) : Prop := TbV W A n c (tabP hs) hs.length
theorem prs_take {U : Tb} {i : Nat} {x : List UInt8 × List Ct} (h : U[i]? = some x) : prs (U.take (i + 1)) = prs (U.take i) ++ x.2.map fun c => (x.1, c) := by
  rw [List.take_add_one, h, prs_append]
  simp [prs]
theorem prs_take_le (U : Tb) (i : Nat) : (prs (U.take i)).length ≤ (prs U).length := by
  conv => rhs; rw [← List.take_append_drop i U]
  rw [prs_append, List.length_append]; omega
end Go.Proofs.YtdbnddmncbjobaaGreatDoor
