/- The law's occurs and known walked. -/
import Derived.Test.YtnpenepdechkjaaGreatDoorMj
import Derived.Test.YtnpenepdechkjaaGreatDoorQk
namespace Go.Proofs.YtnpenepdechkjaaGreatDoor
open Go Go.RowKit

def T5 (ts : List Tk) (k : Int) (s : List UInt8) : Prop := s = [] ∨ k = 5 ∨ k = 6 ∨ ∃ t ∈ ts, t.kd = 1 ∧ t.tx = s
def T6 (ts : List Tk) (k n : Int) : Prop := (k ≠ 1 ∧ k ≠ 3) ∨ (k = 1 ∧ ∃ t ∈ ts, t.kd = 2 ∧ t.nm = n) ∨ (k = 3 ∧ ∃ t ∈ ts, t.kd = 3 ∧ t.tx = 64 :: prL n.toNat)
theorem take_mem {ts : List Tk} {i : Nat} {x : Tk} (h : ts[i]? = some x) {t : Tk} (ht : t ∈ ts.take (i + 1)) : t ∈ ts.take i ∨ t = x := by
  rw [List.take_add_one, h] at ht
  rcases List.mem_append.1 ht with h1 | h1
  · exact .inl h1
  · exact .inr (by simpa using h1)
theorem T5.step {ts : List Tk} {k : Int} {s : List UInt8} {i : Nat} {x : Tk} (hx : ts[i]? = some x) (h : T5 (ts.take (i + 1)) k s) : T5 (ts.take i) k s ∨ (x.kd = 1 ∧ x.tx = s) := by
  rcases h with h | h | h | ⟨t, h1, h2, h3⟩
  · exact .inl (.inl h)
  · exact .inl (.inr (.inl h))
  · exact .inl (.inr (.inr (.inl h)))
  · rcases take_mem hx h1 with h4 | rfl
    · exact .inl (.inr (.inr (.inr ⟨t, h4, h2, h3⟩)))
    · exact .inr ⟨h2, h3⟩
theorem T6.step {ts : List Tk} {k n : Int} {i : Nat} {x : Tk} (hx : ts[i]? = some x) (h : T6 (ts.take (i + 1)) k n) : T6 (ts.take i) k n ∨ (k = 1 ∧ x.kd = 2 ∧ x.nm = n) ∨ (k = 3 ∧ x.kd = 3 ∧ x.tx = 64 :: prL n.toNat) := by
  rcases h with h | ⟨hk, t, h1, h2, h3⟩ | ⟨hk, t, h1, h2, h3⟩
  · exact .inl (.inl h)
  · rcases take_mem hx h1 with h4 | rfl
    · exact .inl (.inr (.inl ⟨hk, t, h4, h2, h3⟩))
    · exact .inr (.inl ⟨hk, h2, h3⟩)
  · rcases take_mem hx h1 with h4 | rfl
    · exact .inl (.inr (.inr ⟨hk, t, h4, h2, h3⟩))
    · exact .inr (.inr ⟨hk, h2, h3⟩)
def OcRel (w : World) (ts : List Tk) (k n : Int) (s : List UInt8) (s5 s6 s7 : Value) (X : World) : Prop :=
  ∃ (b5 b6 : Bool) (i : Nat), i ≤ ts.length ∧ s5 = .bool b5 ∧ s6 = .bool b6 ∧ s7 = .int .i64 i ∧ (T5 (ts.take i) k s → b5 = true) ∧ (T6 (ts.take i) k n → b6 = true) ∧ Ext w X
set_option maxHeartbeats 2000000 in
set_option maxRecDepth 100000 in
theorem occurs_any (ts : List Tk) (A : Option Addr) (c : Nat) (dk dn : Int) (ds : ByteArray) (v3 : Value) (hv3 : ∃ A' m' c', v3 = .slice A' m' c') (s : List UInt8) (hds : ds = bs s) (w : World) (hocc : Occ ts dk dn s) (hSL : SL tcf 4 w A ts.length ts) (hlen : ts.length ≤ 1000000) (hts : ∀ t ∈ ts, t.tx.length ≤ 100000) (htab : Tab w) :
    Calls Tryz.prog 29 #[.agg #[.int .i64 dk, .int .i64 dn, .string ds, v3], .slice A ts.length c] w (BQ2 true w) := by
  obtain ⟨A', m', c', rfl⟩ := hv3
  have HO5 := Lib.hid (show T5 ts dk s from hocc.1)
  have HO6 := Lib.hid (show T6 ts dk dn from by
    rcases hocc.2 with h | ⟨h, t, h1⟩ | ⟨h, _, _, t, h1⟩
    · exact .inl h
    · exact .inr (.inl ⟨h, t, h1⟩)
    · exact .inr (.inr ⟨h, t, h1⟩))
  have HRN := Lib.hid (show dk = 3 → 0 ≤ dn ∧ dn ≤ 3652058 from fun h => by
    rcases hocc.2 with h1 | ⟨h1, _⟩ | ⟨_, h1, h2, _⟩
    · exact absurd h h1.2
    · rw [h] at h1; exact absurd h1 (by decide)
    · exact ⟨h1, h2⟩)
  have HSL := Lib.hid hSL
  have HTS := Lib.hid hts
  have HTB := Lib.hid htab
  have HDS := Lib.hid hds
  have hb0 : ∃ b, b = (ds.toList == []) := ⟨_, rfl⟩
  obtain ⟨bE, hbE⟩ := hb0
  have HBE := Lib.hid (show s = [] → bE = true from fun h => by rw [hbE, hds, bs_list, h]; rfl)
  have t0 : (ds.toList == []) = bE := hbE.symm
  clear hocc hSL hts htab hds hbE
  obtain ⟨b5, hb5⟩ : ∃ b, b = (dk == 5) := ⟨_, rfl⟩
  obtain ⟨b6, hb6⟩ : ∃ b, b = (dk == 6) := ⟨_, rfl⟩
  have HB5 := Lib.hid hb5
  have HB6 := Lib.hid hb6
  have t5 : (dk == 5) = b5 := hb5.symm
  have t6 : (dk == 6) = b6 := hb6.symm
  clear hb5 hb6
  have hx0 : Ext w (w.alloc (.cells #[.int .i64 dk, .int .i64 dn, .string ds, .slice A' m' c'] 31)) := (Ext.refl _).alloc _
  have hnx : NX (w.alloc (.cells #[.int .i64 dk, .int .i64 dn, .string ds, .slice A' m' c'] 31)) w.heap.size dk dn ds (.slice A' m' c') := heap_alloc_new _ _
  go_enter Tryz.func29, Tryz.ntmps29
  go_upto_region 1 with (fail)
  have HX0 := Lib.hid hx0
  have HNX := Lib.hid hnx
  clear hx0 hnx
  generalize w.alloc (.cells #[.int .i64 dk, .int .i64 dn, .string ds, .slice A' m' c'] 31) = w1 at *
  generalize w.heap.size = g at *
  obtain ⟨_, k0, k1, k2, k3, _, _, _, _⟩ := HNX.out.nb
  go_cut [5] (fun s5 wx => ∃ b, s5 = .bool b ∧ (s = [] ∨ dk = 5 ∨ dk = 6 → b = true) ∧ Ext w1 wx)
  case first =>
    have fin : ∀ (b : Bool), (b = false → b5 = false ∧ b6 = false ∧ bE = false) → (s = [] ∨ dk = 5 ∨ dk = 6 → b = true) := fun b hb h => by
      cases b with
      | true => rfl
      | false =>
        obtain ⟨g1, g2, g3⟩ := hb rfl
        exfalso
        rcases h with h | h | h
        · have := HBE.out h; rw [g3] at this; cases this
        · have := HB5.out; rw [g1, h] at this; cases this
        · have := HB6.out; rw [g2, h] at this; cases this
    have FIN := Lib.hid fin
    clear fin
    cases bE
    case true =>
      go_wp2
      go_meet
      case rel => exact ⟨true, rfl, fun _ => rfl, by first | exact Ext.refl _ | exact (Ext.refl _).drewN _⟩
    case false =>
      cases b5
      case true =>
        go_wp2
        go_meet
        case rel => exact ⟨true, rfl, fun _ => rfl, by first | exact Ext.refl _ | exact (Ext.refl _).drewN _⟩
      case false =>
        go_wp2
        go_meet
        case rel => exact ⟨b6, rfl, FIN.out b6 (fun h => by first | exact ⟨rfl, h, rfl⟩ | exact ⟨trivial, h, trivial⟩), by first | exact Ext.refl _ | exact (Ext.refl _).drewN _⟩
  case rest =>
    obtain ⟨q5, rfl, hq5, hxa⟩ := hcut
    have HQ5 := Lib.hid hq5
    have HXA := Lib.hid hxa
    clear hq5 hxa t0 t5 t6 k0 k1 k2 k3
    obtain ⟨_, k0, k1, k2, k3, _, _, _, _⟩ := (HNX.out.mv (b := g + 1) (Mv.of_ext HXA.out) (by omega)).nb
    obtain ⟨p1, hp1⟩ : ∃ b, b = (dk != 1) := ⟨_, rfl⟩
    obtain ⟨p3, hp3⟩ : ∃ b, b = (dk != 3) := ⟨_, rfl⟩
    have HP1 := Lib.hid hp1
    have HP3 := Lib.hid hp3
    have u1 : (dk != 1) = p1 := hp1.symm
    have u3 : (dk != 3) = p3 := hp3.symm
    clear hp1 hp3
    go_upto_region 2 with (fail)
    go_cut [6] (fun s6 wx => ∃ b, s6 = .bool b ∧ (dk ≠ 1 ∧ dk ≠ 3 → b = true) ∧ Ext wc wx)
    case first =>
      cases p1
      case false =>
        go_wp2
        go_meet
        case rel => exact ⟨false, rfl, fun h => by have := HP1.out; exact absurd (bne_iff_ne.2 h.1) (by rw [← this]; decide), by first | exact Ext.refl _ | exact (Ext.refl _).drewN _⟩
      case true =>
        go_wp2
        go_meet
        case rel => exact ⟨p3, rfl, fun h => by rw [HP3.out]; exact bne_iff_ne.2 h.2, by first | exact Ext.refl _ | exact (Ext.refl _).drewN _⟩
    case rest =>
      obtain ⟨q6, rfl, hq6, hxb⟩ := hcut
      have HXB := Lib.hid (HXA.out.trans hxb)
      have HST := Lib.hid (show OcRel w ts dk dn s (.bool q5) (.bool q6) (.int .i64 0) wc from ⟨q5, q6, 0, Nat.zero_le _, rfl, rfl, rfl, fun h => by
          rcases h with h | h | h | ⟨t, h, _⟩
          · exact HQ5.out (.inl h)
          · exact HQ5.out (.inr (.inl h))
          · exact HQ5.out (.inr (.inr h))
          · simp at h, fun h => by
          rcases h with h | ⟨_, t, h, _⟩ | ⟨_, t, h, _⟩
          · exact hq6 h
          · simp at h
          · simp at h, HX0.out.trans HXB.out⟩)
      clear hq6 hxb u1 u3 HQ5 HXA HBE HB5 HB6 HP1 HP3 k0 k1 k2 k3
      go_wp2_with fail
      go_loopw [5, 6, 7] (fun s5 s6 s7 X => OcRel w ts dk dn s s5 s6 s7 X ∧ Ext w1 X) (fun _ _ s7 _ => toM ts.length s7)
      case atStart => exact ⟨HST.out, HXB.out⟩
      case round =>
        obtain ⟨⟨b5', b6', i, hi, rfl, rfl, rfl, hr5, hr6, hxw⟩, hx⟩ := hrel
        clear HST
        have HR5 := Lib.hid hr5
        have HR6 := Lib.hid hr6
        have HXW := Lib.hid hxw
        have HXR := Lib.hid hx
        obtain ⟨_, k0, k1, k2, k3, _, _, _, _⟩ := (HNX.out.mv (b := g + 1) (Mv.of_ext hx) (by omega)).nb
        clear hr5 hr6 hxw hx
        by_cases hlt : i < ts.length
        case neg =>
          obtain rfl : i = ts.length := by omega
          have hni : ¬ ((ts.length : Int) < (ts.length : Int)) := by omega
          have e5 := HR5.out (by rw [List.take_length]; exact HO5.out)
          have e6 := HR6.out (by rw [List.take_length]; exact HO6.out)
          subst e5 e6
          go_wp2
          go_ret
          exact ⟨rfl, HXW.out⟩
        have hI : (i : Int) < (ts.length : Int) := by omega
        obtain ⟨gb, off, tk, hA, hgb, htk, p0, p1, p2, p3⟩ := (HSL.out.ext HXW.out).tok hlt
        subst hA
        have HTK := Lib.hid htk
        have hts := HTS.out tk (List.mem_of_getElem? htk)
        clear htk
        obtain ⟨tkd, tat, ttx, tnm⟩ := tk
        simp only at p0 p1 p2 p3 hts
        obtain ⟨TX, hTX⟩ : ∃ T, T = bs ttx := ⟨_, rfl⟩
        rw [show (⟨ttx.toArray⟩ : ByteArray) = TX from hTX.symm] at p2
        have hTs : TX.size = ttx.length := by rw [hTX, bs_size]
        have HTX := Lib.hid hTX
        obtain ⟨d1, hd1⟩ : ∃ b, b = (tkd == 1) := ⟨_, rfl⟩
        obtain ⟨d2, hd2⟩ : ∃ b, b = (tkd == 2) := ⟨_, rfl⟩
        obtain ⟨d3, hd3⟩ : ∃ b, b = (tkd == 3) := ⟨_, rfl⟩
        obtain ⟨dq, hdq⟩ : ∃ b, b = (TX.toList == ds.toList) := ⟨_, rfl⟩
        obtain ⟨dm, hdm⟩ : ∃ b, b = (tnm == dn) := ⟨_, rfl⟩
        obtain ⟨e1, he1⟩ : ∃ b, b = (dk == 1) := ⟨_, rfl⟩
        obtain ⟨e3, he3⟩ : ∃ b, b = (dk == 3) := ⟨_, rfl⟩
        have f1 := hd1.symm
        have f2 := hd2.symm
        have f3 := hd3.symm
        have f4 := hdq.symm
        have f5 := hdm.symm
        have f6 := he1.symm
        have f7 := he3.symm
        have HQ := Lib.hid (show tkd = 1 → ttx = s → d1 = true ∧ dq = true from fun h1 h2 => ⟨by rw [hd1, h1]; rfl, by rw [hdq, hTX, HDS.out, h2]; exact beq_self_eq_true _⟩)
        have HM := Lib.hid (show dk = 1 → tkd = 2 → tnm = dn → e1 = true ∧ d2 = true ∧ dm = true from fun h1 h2 h3 => ⟨by rw [he1, h1]; rfl, by rw [hd2, h2]; rfl, by rw [hdm, h3]; exact beq_self_eq_true _⟩)
        have H3 := Lib.hid (show dk = 3 → tkd = 3 → e3 = true ∧ d3 = true from fun h1 h2 => ⟨by rw [he3, h1]; rfl, by rw [hd3, h2]; rfl⟩)
        have HE3 := Lib.hid (show e3 = true → dk = 3 from fun h => by rw [he3] at h; simpa using h)
        clear hd1 hd2 hd3 hdq hdm he1 he3 hTX
        go_upto_region 6 with (fail)
        go_cut [5] (fun s5 wx => ∃ b, s5 = .bool b ∧ (b5' = true ∨ (d1 = true ∧ dq = true) → b = true) ∧ Ext wr wx)
        case first =>
          cases b5'
          case true =>
            go_quiet (fail)
            go_wp2
            go_meet
            case rel => exact ⟨true, rfl, fun _ => rfl, (Ext.refl _).drewN _⟩
          case false =>
            cases d1
            case false =>
              go_quiet (fail)
              go_wp2
              go_meet
              case rel => exact ⟨false, rfl, fun h => by simp at h, (Ext.refl _).drewN _⟩
            case true =>
              go_quiet (fail)
              go_wp2
              go_meet
              case rel => exact ⟨dq, rfl, fun h => by simpa using h, (Ext.refl _).drewN _⟩
        case rest =>
          obtain ⟨c5, rfl, hc5, hxa⟩ := hcut
          have HC5 := Lib.hid (show T5 (ts.take (i + 1)) dk s → c5 = true from fun h => by
            rcases h.step HTK.out with h | ⟨h1, h2⟩
            · exact hc5 (.inl (HR5.out h))
            · exact hc5 (.inr (HQ.out h1 h2)))
          have HXA := Lib.hid hxa
          replace p0 := cells_ext p0 hxa
          replace p1 := cells_ext p1 hxa
          replace p2 := cells_ext p2 hxa
          replace p3 := cells_ext p3 hxa
          replace k0 := cells_ext k0 hxa
          replace k1 := cells_ext k1 hxa
          replace k2 := cells_ext k2 hxa
          replace k3 := cells_ext k3 hxa
          have hgbc := Nat.lt_of_lt_of_le hgb hxa.lt
          clear hc5 hxa f1 f4
          go_upto_region 7 with (fail)
          go_cut [6] (fun s6 wx => ∃ b, s6 = .bool b ∧ (b6' = true ∨ (e1 = true ∧ d2 = true ∧ dm = true) → b = true) ∧ Ext wc wx)
          case first =>
            cases b6'
            case true =>
              go_quiet (fail)
              go_wp2
              go_meet
              case rel => exact ⟨true, rfl, fun _ => rfl, (Ext.refl _).drewN _⟩
            case false =>
              cases e1
              case false =>
                go_quiet (fail)
                go_wp2
                go_meet
                case rel => exact ⟨false, rfl, fun h => by simp at h, (Ext.refl _).drewN _⟩
              case true =>
                cases d2
                case false =>
                  go_quiet (fail)
                  go_wp2
                  go_meet
                  case rel => exact ⟨false, rfl, fun h => by simp at h, (Ext.refl _).drewN _⟩
                case true =>
                  go_quiet (fail)
                  go_wp2
                  go_meet
                  case rel => exact ⟨dm, rfl, fun h => by simpa using h, (Ext.refl _).drewN _⟩
          case rest =>
            obtain ⟨c6, rfl, hc6, hxb⟩ := hcut
            have HC6 := Lib.hid hc6
            have HXB := Lib.hid hxb
            replace p0 := cells_ext p0 hxb
            replace p1 := cells_ext p1 hxb
            replace p2 := cells_ext p2 hxb
            replace p3 := cells_ext p3 hxb
            replace k0 := cells_ext k0 hxb
            replace k1 := cells_ext k1 hxb
            replace k2 := cells_ext k2 hxb
            replace k3 := cells_ext k3 hxb
            have hgbd := Nat.lt_of_lt_of_le hgbc hxb.lt
            clear hc6 hxb f2 f5 f6
            go_upto_region 8 with (fail)
            have HFIN := Lib.hid (show ∀ (z6 : Bool) X, (c6 = true ∨ (dk = 3 ∧ tkd = 3 ∧ ttx = 64 :: prL dn.toNat) → z6 = true) → Ext w1 X → OcRel w ts dk dn s (.bool c5) (.bool z6) (.int .i64 ((i : Int) + 1)) X ∧ Ext w1 X from fun z6 X hz6 hxc =>
              ⟨⟨c5, z6, i + 1, by omega, rfl, rfl, by simp, HC5.out, fun h => by
                rcases h.step HTK.out with h | ⟨h1, h2, h3⟩ | h
                · exact hz6 (.inl (HC6.out (.inl (HR6.out h))))
                · exact hz6 (.inl (HC6.out (.inr (HM.out h1 h2 h3))))
                · exact hz6 (.inr h), HX0.out.trans hxc⟩, hxc⟩)
            have HXC := Lib.hid ((HXR.out.trans HXA.out).trans HXB.out)
            cases c6
            case true =>
              go_quiet (fail)
              go_wp2
              exact ⟨HFIN.out true _ (fun _ => rfl) (HXC.out.trans ((Ext.refl _).drewN _)), by simp only [toM]; omega⟩
            case false =>
              cases e3
              case false =>
                go_quiet (fail)
                go_wp2
                exact ⟨HFIN.out false _ (fun h => by
                  rcases h with h | ⟨h1, h2, _⟩
                  · cases h
                  · have := (H3.out h1 h2).1; cases this) (HXC.out.trans ((Ext.refl _).drewN _)), by simp only [toM]; omega⟩
              case true =>
                cases d3
                case false =>
                  go_quiet (fail)
                  go_wp2
                  exact ⟨HFIN.out false _ (fun h => by
                    rcases h with h | ⟨h1, h2, _⟩
                    · cases h
                    · have := (H3.out h1 h2).2; cases this) (HXC.out.trans ((Ext.refl _).drewN _)), by simp only [toM]; omega⟩
                case true =>
                  have hn := HRN.out (HE3.out rfl)
                  obtain ⟨m, hm⟩ := Int.eq_ofNat_of_zero_le hn.1
                  subst hm
                  have hm2 : m ≤ 3652058 := by omega
                  obtain ⟨PD, hPD⟩ : ∃ P, P = bs (prL m) := ⟨_, rfl⟩
                  have hPs : PD.size = 10 := by rw [hPD, bs_size, prL_size hm2]
                  have HPC := Lib.hid (fun X (hX : Ext w X) => (show Calls Tryz.prog 50 #[.int .i64 (m : Int)] X (fun e X' => e = .returned (.string PD) ∧ Ext X X') from hPD ▸ print_any m X hm2 (HTB.out.ext hX)))
                  have r0 : ¬ 9223372036854775807 < PD.size + 1 := by omega
                  have HPD := Lib.hid hPD
                  have HDP := Lib.hid (show ttx = 64 :: prL m → (TX.toList == (⟨#[64]⟩ ++ PD : ByteArray).toList) = true from fun h => by
                    have e9 : (⟨#[64]⟩ ++ PD : ByteArray).toList = ttx := by rw [HPD.out, ByteArray.toList_eq, app_list, h]; rfl
                    rw [e9, HTX.out, bs_list]; exact beq_self_eq_true _)
                  clear hPD hn
                  have HQQ := Lib.hid (fun X (hX : Ext wc X) => (show X.cell? ⟨gb, off + i * 4, none⟩ = some (.int .i64 tkd) ∧ X.cell? ⟨gb, off + i * 4 + 2, none⟩ = some (.string TX) ∧ X.cell? ⟨g, 0, none⟩ = some (.int .i64 dk) ∧ X.cell? ⟨g, 1, none⟩ = some (.int .i64 (m : Int)) from ⟨cells_ext p0 hX, by rw [Nat.add_assoc]; exact cells_ext p2 hX, cells_ext k0 hX, cells_ext k1 hX⟩))
                  have hcur : Ext wc wc.drew := (Ext.refl _).drew
                  go_region_held3 (fun X => X.cell? ⟨gb, off + i * 4, none⟩ = some (.int .i64 tkd) ∧ X.cell? ⟨gb, off + i * 4 + 2, none⟩ = some (.string TX) ∧ X.cell? ⟨g, 0, none⟩ = some (.int .i64 dk) ∧ X.cell? ⟨g, 1, none⟩ = some (.int .i64 (m : Int))) (first | exact HQQ.out _ hcur | go_keep)
                    (first
                      | (go_at_call 50; refine (HPC.out _ (HX0.out.trans (HXC.out.trans hcur))).mono ?_; rintro e wn ⟨rfl, hx⟩; have hcur := hcur.trans hx; clear hx))
                  go_wp2
                  exact ⟨HFIN.out _ _ (fun h => by
                    rcases h with h | ⟨_, _, h⟩
                    · cases h
                    · exact HDP.out h) (HXC.out.trans hcur), by simp only [toM]; omega⟩
end Go.Proofs.YtnpenepdechkjaaGreatDoor
