/- The law of printing and parsing walked. -/
import Derived.Test.YtnpenepdechkjaaGreatDoorMj
import Derived.Test.YtnpenepdechkjaaGreatDoorQp
namespace Go.Proofs.YtnpenepdechkjaaGreatDoor
open Go Go.RowKit

set_option maxHeartbeats 2000000 in
set_option maxRecDepth 100000 in
theorem round_any (s : ByteArray) (w : World) (hs : s.size ≤ 281474976710656) (hE : EnvP w) : Calls Tryz.prog 7 #[.string s] w (BQ2 true w) := by
  have HE := Lib.hid hE
  have HP := Lib.hid (pParse_any s w hs hE.1)
  have HLV := Lib.hid (fun X (hX : Ext w X) => lives_any X (hE.ext hX))
  have HSZ := Lib.hid (parseR_sz s.data.toList)
  have HGQ := Lib.hid (parsed_gq (s := s.data.toList))
  obtain ⟨y, hy⟩ : ∃ y, y = parseR s.data.toList := ⟨_, rfl⟩
  rw [← hy] at HP HSZ HGQ
  clear hE hy
  obtain ⟨v, at_, er⟩ := y
  simp only at HP HSZ HGQ
  unfold PaPost RWl at HP
  simp only at HP
  obtain ⟨J, hJ⟩ : ∃ J, J = bs (printL v) := ⟨_, rfl⟩
  have hJl : J.size = (printL v).length := by rw [hJ, bs_size]
  have HGR := Lib.hid (show ∀ r ∈ v, GR r from fun r hr => (HGQ.out r hr).gr (by have := HSZ.out.2 r hr; omega) (by have := HSZ.out.2 r hr; omega))
  have HPR := Lib.hid (fun P A c X (hX : Ext w X) (hrw : RW X P A v.length v) => (show Calls Tryz.prog 23 #[.slice A v.length c] X (fun e X' => e = .returned (.string J) ∧ Ext X X') from by
    have h9 := pprint_any P A c v X (by have := HSZ.out.1; omega) HGR.out hrw (HE.out.2.ext hX)
    unfold StrPost at h9
    rw [hJ]; exact h9))
  have HP2 := Lib.hid (fun (hl : J.size ≤ 4000) X (hX : Ext w X) => (show Calls Tryz.prog 14 #[.string J] X (fun e W' => ∃ A c, e = .returned (.tuple #[.slice A v.length c, .int .i64 0, .int .i64 0]) ∧ RW W' (fun k => X.heap.size ≤ k) A v.length v ∧ Ext X W') from by
    have h9 := pParse_any J X (by omega) (HE.out.1.ext hX)
    have hq := print_parse (l := v) HGQ.out (by omega)
    rw [show J.data.toList = printL v by rw [hJ], hq] at h9
    refine h9.mono ?_
    rintro e W' ⟨v1, rfl, ⟨A, c, rfl, hrw⟩, hx⟩
    exact ⟨A, c, rfl, hrw, hx⟩))
  have HSR := Lib.hid (fun A c B c' P Q X (ha : RW X P A v.length v) (hb : RW X Q B v.length v) => (show Calls Tryz.prog 16 #[.slice A v.length c, .slice B v.length c'] X (BQ2 true X) from by
    have h9 := sameR_any A B c c' v v P Q X (by have := HSZ.out.1; omega) (by have := HSZ.out.1; omega) (fun r hr => by have := HSZ.out.2 r hr; omega) (fun r hr => by have := HSZ.out.2 r hr; omega) ha hb
    rw [(eqRs_iff v v).2 rfl] at h9; exact h9))
  clear hJ hJl
  obtain ⟨n, hn⟩ : ∃ n, n = v.length := ⟨_, rfl⟩
  rw [← hn] at HP HPR HP2 HSR
  clear hn
  by_cases he : er = 0
  case neg =>
    have t0 : (er != 0) = true := by simpa using he
    clear he
    go_enter Tryz.func7, Tryz.ntmps7
    go_wp2_with (first
      | (go_at_call 14; refine (HP.out).mono ?_; rintro e w1 ⟨v1, rfl, ⟨A1, c1, rfl, hrw1⟩, hx1⟩; have HX1 := Lib.hid hx1; have HRW1 := Lib.hid hrw1; clear hx1 hrw1)
      | (go_at_call 23; refine (HPR.out _ _ _ _ HX1.out HRW1.out).mono ?_; rintro e w2 ⟨rfl, hx2⟩; have HX2 := Lib.hid (HX1.out.trans hx2); clear hx2)
      | (go_at_call 17; refine (HLV.out _ HX2.out).mono ?_; rintro e w3 ⟨rfl, hx3⟩))
    go_ret
    exact ⟨rfl, HX2.out.trans hx3⟩
  have t0 : (er != 0) = false := by simp [he]
  by_cases hl : J.size ≤ 4000
  case neg =>
    have t1 : (4000 : Int) < (J.size : Int) := by omega
    clear he hl
    go_enter Tryz.func7, Tryz.ntmps7
    go_wp2_with (first
      | (go_at_call 14; refine (HP.out).mono ?_; rintro e w1 ⟨v1, rfl, ⟨A1, c1, rfl, hrw1⟩, hx1⟩; have HX1 := Lib.hid hx1; have HRW1 := Lib.hid hrw1; clear hx1 hrw1)
      | (go_at_call 23; refine (HPR.out _ _ _ _ HX1.out HRW1.out).mono ?_; rintro e w2 ⟨rfl, hx2⟩; have HX2 := Lib.hid (HX1.out.trans hx2); clear hx2)
      | (go_at_call 17; refine (HLV.out _ HX2.out).mono ?_; rintro e w3 ⟨rfl, hx3⟩))
    go_ret
    exact ⟨rfl, HX2.out.trans hx3⟩
  have t1 : ¬ (4000 : Int) < (J.size : Int) := by omega
  have HPP := Lib.hid (HP2.out hl)
  have tj : (J.toList == J.toList) = true := beq_self_eq_true _
  clear he hl HP2
  go_enter Tryz.func7, Tryz.ntmps7
  go_upto_region 5 with (first
    | (go_at_call 14; refine (HP.out).mono ?_; rintro e w1 ⟨v1, rfl, ⟨A1, c1, rfl, hrw1⟩, hx1⟩; have HX1 := Lib.hid hx1; have HRW1 := Lib.hid hrw1; clear hx1 hrw1)
    | (go_at_call 23; refine (HPR.out _ _ _ _ HX1.out HRW1.out).mono ?_; rintro e w2 ⟨rfl, hx2⟩; have HX2 := Lib.hid (HX1.out.trans hx2); have HRW2 := Lib.hid (HRW1.out.ext hx2); clear hx2))
  clear t0 t1
  go_wp2_with fail
  refine (HPP.out _ HX2.out).mono ?_
  rintro e w3 ⟨A3, c3, rfl, hrw3, hx3⟩
  have HX3 := Lib.hid (HX2.out.trans hx3)
  have HRW3 := Lib.hid (HRW2.out.ext hx3)
  have HRB := Lib.hid hrw3
  clear hx3 hrw3
  go_wp2_with fail
  refine (HSR.out _ _ _ _ _ _ _ HRW3.out HRB.out).mono ?_
  rintro e w4 ⟨rfl, hx4⟩
  have HX4 := Lib.hid (HX3.out.trans hx4)
  have HRB4 := Lib.hid (HRB.out.ext hx4)
  clear hx4
  go_wp2_with fail
  refine (HPR.out _ _ _ _ HX4.out HRB4.out).mono ?_
  rintro e w5 ⟨rfl, hx5⟩
  have HX5 := Lib.hid (HX4.out.trans hx5)
  clear hx5
  go_wp2_with fail
  refine (HLV.out _ HX5.out).mono ?_
  rintro e w6 ⟨rfl, hx6⟩
  go_wp2_with fail
  go_ret
  exact ⟨rfl, HX5.out.trans hx6⟩
end Go.Proofs.YtnpenepdechkjaaGreatDoor
