/- The law of what follows walked. -/
import Derived.Test.YtnpenepdechkjaaGreatDoorTc
import Derived.Test.YtnpenepdechkjaaGreatDoorKb
namespace Go.Proofs.YtnpenepdechkjaaGreatDoor
open Go Go.RowKit

def wN (x : Rl) (j : Nat) : List UInt8 := if j = 0 then x.name else if j = 1 then x.on_ else if j = 2 then x.unless_ else x.else_
theorem wN_occ {ts : List Tk} {x : Rl} (h : KnR ts x) (j : Nat) : Occ ts 0 0 (wN x j) := by
  unfold wN
  split
  · exact h.name
  split
  · exact h.on_
  split
  · exact h.unless_
  · exact h.else_
def FoRel (w : World) (n : Nat) (s9 : Value) (X : World) : Prop := ∃ k : Nat, k ≤ n ∧ s9 = .int .i64 k ∧ Ext w X
set_option maxHeartbeats 2000000 in
set_option maxRecDepth 100000 in
theorem follows_any (s : ByteArray) (w : World) (hs : s.size ≤ 281474976710656) (hE : EnvP w) : Calls Tryz.prog 12 #[.string s] w (BQ2 true w) := by
  have HE := Lib.hid hE
  have HP := Lib.hid (pParse_any s w hs hE.1)
  have HT := Lib.hid (fun X (hX : Ext w X) => tokens_any s X hs (hE.1.ext hX).1 (hE.1.ext hX).2.1)
  have HLV := Lib.hid (fun X (hX : Ext w X) => lives_any X (hE.ext hX))
  have HSZ := Lib.hid (parseR_sz s.data.toList)
  have HLAW := Lib.hid (fun h => follows_R (s := s.data.toList) h)
  have HLT2 := Lib.hid (fun h => (lexT_ok (s := s.data.toList) h).2.1)
  have HLT := Lib.hid (fun h => (lexT_ok (s := s.data.toList) h).2.2.2.1)
  obtain ⟨y, hy⟩ : ∃ y, y = parseR s.data.toList := ⟨_, rfl⟩
  obtain ⟨x, hx⟩ : ∃ x, x = lexT s.data.toList := ⟨_, rfl⟩
  rw [← hy] at HP HSZ HLAW
  rw [← hx] at HT HLAW HLT HLT2
  obtain ⟨v, at_, er⟩ := y
  obtain ⟨tl, off, f⟩ := x
  try simp only at HP
  try simp only at HT
  try simp only at HLAW
  try simp only at HSZ
  try simp only at HLT
  try simp only at HLT2
  clear hE hy hx
  unfold PaPost RWl at HP
  try simp only at HP
  unfold TokPost at HT
  try simp only at HT
  obtain ⟨n, hn⟩ : ∃ n, n = v.length := ⟨_, rfl⟩
  obtain ⟨N, hN⟩ : ∃ n, n = tl.length := ⟨_, rfl⟩
  rw [← hn] at HP
  rw [← hN] at HT
  have HNV := Lib.hid hn
  have HNN := Lib.hid hN
  have hn4 : n ≤ 4001 := by rw [hn]; exact HSZ.out.1
  clear hn hN
  by_cases c0 : er = 0
  case neg =>
    have t0 : (er != 0) = true := by simpa using c0
    clear c0
    go_enter Tryz.func12, Tryz.ntmps12
    go_wp2_with (first
      | (go_at_call 14; refine (HP.out).mono ?_; rintro e w1 ⟨v1, rfl, ⟨A1, c1, rfl, _⟩, hx1⟩; have HX1 := Lib.hid hx1; clear hx1)
      | (go_at_call 28; refine (HT.out _ HX1.out).mono ?_; rintro e w2 ⟨A2, c2, rfl, _, hx2, _⟩; have HX2 := Lib.hid (HX1.out.trans hx2); clear hx2)
      | (go_at_call 17; refine (HLV.out _ HX2.out).mono ?_; rintro e w3 ⟨rfl, hx3⟩))
    go_ret
    exact ⟨rfl, HX2.out.trans hx3⟩
  have t0 : (er != 0) = false := by simp [c0]
  obtain ⟨hf0, hkn⟩ := HLAW.out c0
  have HKN := Lib.hid hkn
  have hT4 : tl.length ≤ 1000000 := by have := HLT2.out hf0; omega
  have HTX := Lib.hid (fun t ht => Nat.le_trans (HLT.out hf0 t ht) (by decide : 4000 ≤ 100000))
  clear c0 hf0 hkn HLAW HLT HLT2
  go_enter Tryz.func12, Tryz.ntmps12
  go_upto_region 5 with (first
    | (go_at_call 14; refine (HP.out).mono ?_; rintro e w1 ⟨v1, rfl, ⟨A1, c1, rfl, hrw⟩, hx1⟩; have HX1 := Lib.hid hx1; have HRW := Lib.hid hrw; clear hx1 hrw)
    | (go_at_call 28; refine (HT.out _ HX1.out).mono ?_; rintro e w2 ⟨A2, c2, rfl, hsl, hx2, _⟩; have HX2 := Lib.hid (HX1.out.trans hx2); have HSL := Lib.hid hsl; have HRW2 := Lib.hid (HRW.out.ext hx2); clear hx2 hsl))
  clear t0
  rw [HNN.out] at HSL
  rw [HNV.out] at HRW2
  go_wp2_with fail
  go_loopw [9] (fun s9 X => FoRel w2 n s9 X) (fun s9 _ => toM n s9)
  case atStart => exact ⟨0, Nat.zero_le _, rfl, Ext.refl _⟩
  case round =>
    obtain ⟨k, hk, rfl, hx⟩ := hrel
    have HX := Lib.hid (HX2.out.trans hx)
    have HXR := Lib.hid hx
    clear hx
    by_cases hlt : k < n
    case neg =>
      obtain rfl : k = n := by omega
      have hni : ¬ ((k : Int) < (k : Int)) := by omega
      go_wp2_with (first | (go_at_call 17; refine (HLV.out _ HX.out).mono ?_; rintro e w3 ⟨rfl, hx3⟩))
      go_ret
      exact ⟨rfl, HX.out.trans hx3⟩
    have hI1 : (k : Int) < (n : Int) := by omega
    obtain ⟨g1, o1, d1, r, hA1, hg1, hr1, hm1, hrp, p0, p1, p2, p3, p4, p5, p6, p7, p8, p9, p10, p11, p12⟩ := (HRW2.out.ext HXR.out).at_ (by rw [← HNV.out]; exact hlt)
    subst hA1
    have HKR := Lib.hid (HKN.out r hm1)
    have HMS := Lib.hid (HSZ.out.2 r hm1)
    have HRP := Lib.hid hrp
    clear hr1 hm1 hrp
    obtain ⟨dn, df, don, di, dd, du, de⟩ := d1
    simp only at p0 p1 p2 p3 p4 p5 p6 p7 p8 p9 p10 p11 p12
    have HW := Lib.hid (show dn = bs (wN r 0) ∧ don = bs (wN r 1) ∧ du = bs (wN r 2) ∧ de = bs (wN r 3) from ⟨HRP.out.name, HRP.out.on_, HRP.out.unless_, HRP.out.else_⟩)
    have HF := Lib.hid (show df = r.from_ from HRP.out.from_)
    have HI := Lib.hid (show Rep wr _ di r.if_ from HRP.out.if_)
    have HD := Lib.hid (show Rep wr _ dd r.due from HRP.out.due)
    clear HRP
    have hxg : Ext wr (wr.alloc (.cells #[.string dn, .string don, .string du, .string de] 9)).drew := ((Ext.refl _).alloc _).drew
    have hrow : (wr.alloc (.cells #[.string dn, .string don, .string du, .string de] 9)).drew.heap[wr.heap.size]? = some (.cells #[.string dn, .string don, .string du, .string de] 9 (0, 0)) := heap_alloc_new _ _
    have HQ := Lib.hid (fun X (hX : Ext wr X) => (show X.cell? ⟨g1, o1 + k * 13 + 1, none⟩ = some (.int .i64 df) ∧ X.cell? ⟨g1, o1 + k * 13 + 3, none⟩ = some (.int .i64 di.k) ∧ X.cell? ⟨g1, o1 + k * 13 + 4, none⟩ = some (.int .i64 di.n) ∧ X.cell? ⟨g1, o1 + k * 13 + 5, none⟩ = some (.string di.s) ∧ X.cell? ⟨g1, o1 + k * 13 + 6, none⟩ = some (.slice di.A di.m di.c) ∧
      X.cell? ⟨g1, o1 + k * 13 + 7, none⟩ = some (.int .i64 dd.k) ∧ X.cell? ⟨g1, o1 + k * 13 + 8, none⟩ = some (.int .i64 dd.n) ∧ X.cell? ⟨g1, o1 + k * 13 + 9, none⟩ = some (.string dd.s) ∧ X.cell? ⟨g1, o1 + k * 13 + 10, none⟩ = some (.slice dd.A dd.m dd.c) from
      ⟨cells_ext p1 hX, cells_ext p3 hX, cells_ext p4 hX, cells_ext p5 hX, cells_ext p6 hX, cells_ext p7 hX, cells_ext p8 hX, cells_ext p9 hX, cells_ext p10 hX⟩))
    go_wp2
    go_still_tail 20, (by kernel_rfl)
    change wpList _ _ _ _ _ wr.drew
    clear p0 p1 p2 p3 p4 p5 p6 p7 p8 p9 p10 p11 p12
    go_wp2_with fail
    have hsz : wr.heap.size < (wr.alloc (.cells #[.string dn, .string don, .string du, .string de] 9)).drew.heap.size := by simp
    generalize (wr.alloc (.cells #[.string dn, .string don, .string du, .string de] 9)).drew = w3 at *
    generalize wr.heap.size = g3 at *
    have HX3 := Lib.hid hxg
    have HROW := Lib.hid (show ∀ j, j < 4 → w3.cell? ⟨g3, j, none⟩ = some (.string (bs (wN r j))) from fun j hj => by
      rw [cell_of_row _ _ _ _ 9 (0, 0) hrow]
      rcases (by omega : j = 0 ∨ j = 1 ∨ j = 2 ∨ j = 3) with rfl | rfl | rfl | rfl
      · rw [← HW.out.1]; rfl
      · rw [← HW.out.2.1]; rfl
      · rw [← HW.out.2.2.1]; rfl
      · rw [← HW.out.2.2.2]; rfl)
    clear hxg hrow
    have HQ3 := Lib.hid (fun X (hX : Ext w3 X) => HQ.out X (HX3.out.trans hX))
    have HI3 := Lib.hid (HI.out.ext HX3.out)
    have HD3 := Lib.hid (HD.out.ext HX3.out)
    have HS3 := Lib.hid (HSL.out.ext (HXR.out.trans HX3.out))
    have HE3 := Lib.hid (HE.out.ext (HX.out.trans HX3.out))
    have hg13 := Nat.lt_trans hg1 hsz
    go_loopw [11] (fun s11 X => FoRel w3 4 s11 X) (fun s11 _ => toM 4 s11)
    case atStart => exact ⟨0, by omega, rfl, Ext.refl _⟩
    case round =>
      obtain ⟨j, hj, rfl, hx⟩ := hrel
      have HXJ := Lib.hid hx
      have HXT := Lib.hid (HX.out.trans (HX3.out.trans hx))
      have HXL := Lib.hid ((HXR.out.trans HX3.out).trans hx)
      clear hx
      by_cases hjl : j < 4
      case pos =>
        have hJ : (j : Int) < 4 := by omega
        have q0 := cells_ext (HROW.out j hjl) HXJ.out
        have hgl := Nat.lt_of_lt_of_le hsz HXJ.out.lt
        have HOC := Lib.hid (fun X (hX : Ext w2 X) (hX' : Ext w X) => (show Calls Tryz.prog 29 #[.agg #[.int .i64 0, .int .i64 0, .string (bs (wN r j)), .slice none 0 0], .slice A2 tl.length c2] X (BQ2 true X) from
          occurs_any tl A2 c2 0 0 (bs (wN r j)) (.slice none 0 0) ⟨_, _, _, rfl⟩ (wN r j) rfl X (wN_occ HKR.out j) (HSL.out.ext hX) hT4 HTX.out (HE.out.2.ext hX')))
        rw [← HNN.out] at HOC
        obtain ⟨SW, hSW⟩ : ∃ S, S = bs (wN r j) := ⟨_, rfl⟩
        rw [← hSW] at q0 HOC
        clear hSW
        go_wp2_with (first | (go_at_call 29; refine (HOC.out _ HXL.out HXT.out).mono ?_; rintro e w5 ⟨rfl, hx5⟩))
        exact ⟨⟨j + 1, by omega, by simp, HXJ.out.trans hx5⟩, by simp only [toM]; omega⟩
      case neg =>
        obtain rfl : j = 4 := by omega
        have hni : ¬ ((4 : Int) < (4 : Int)) := by omega
        have hgl := Nat.lt_of_lt_of_le hg13 HXJ.out.lt
        have hfo := HKR.out.from_
        rw [← HF.out] at hfo
        have HO3 := Lib.hid (fun X (hX : Ext w3 X) => (show Calls Tryz.prog 29 #[.agg #[.int .i64 3, .int .i64 df, .string ⟨#[]⟩, .slice none 0 0], .slice A2 tl.length c2] X (BQ2 true X) from
          occurs_any tl A2 c2 3 df ⟨#[]⟩ (.slice none 0 0) ⟨_, _, _, rfl⟩ [] rfl X hfo (HS3.out.ext hX) hT4 HTX.out (HE3.out.2.ext hX)))
        have HKD := Lib.hid (fun X (hX : Ext w3 X) => (show Calls Tryz.prog 30 #[.agg #[.int .i64 dd.k, .int .i64 dd.n, .string dd.s, .slice dd.A dd.m dd.c], .slice A2 tl.length c2] X (BQ2 true X) from
          known_any tl A2 c2 hT4 HTX.out (tsz r.due) r.due dd _ X (Nat.le_refl _) (by have := HMS.out.2; omega) (HD3.out.ext hX) HKR.out.due (HS3.out.ext hX) (HE3.out.2.ext hX)))
        have HKI := Lib.hid (fun X (hX : Ext w3 X) => (show Calls Tryz.prog 30 #[.agg #[.int .i64 di.k, .int .i64 di.n, .string di.s, .slice di.A di.m di.c], .slice A2 tl.length c2] X (BQ2 true X) from
          known_any tl A2 c2 hT4 HTX.out (tsz r.if_) r.if_ di _ X (Nat.le_refl _) (by have := HMS.out.1; omega) (HI3.out.ext hX) HKR.out.if_ (HS3.out.ext hX) (HE3.out.2.ext hX)))
        have HSM := Lib.hid (fun X (hX : Ext w3 X) => (show Calls Tryz.prog 20 #[.agg #[.int .i64 di.k, .int .i64 di.n, .string di.s, .slice di.A di.m di.c], .agg #[.int .i64 2, .int .i64 1, .string ⟨#[]⟩, .slice none 0 0]] X (BQ2 (eqT r.if_ trTrue) X) from
          same_any (tsz r.if_) r.if_ trTrue di ⟨2, 1, ⟨#[]⟩, none, 0, 0⟩ _ (fun _ => True) X (Nat.le_refl _) (by have := HMS.out.1; omega) (by decide) (HI3.out.ext hX) (Rep.leaf _ _ 2 1 [])))
        rw [← HNN.out] at HO3 HKD HKI
        obtain ⟨qe, hqe⟩ : ∃ q, q = eqT r.if_ trTrue := ⟨_, rfl⟩
        rw [← hqe] at HSM
        obtain ⟨p1, p3, p4, p5, p6, p7, p8, p9, p10⟩ := HQ3.out _ HXJ.out
        clear hqe hfo
        go_upto_region 14 with (fail)
        cases qe
        case true =>
          have hcur : Ext wr wr.drew := (Ext.refl _).drew
          refine wp_region_E (fun _ => True) (fun X => X.cell? ⟨g1, o1 + k * 13 + 1, none⟩ = some (.int .i64 df) ∧ X.cell? ⟨g1, o1 + k * 13 + 3, none⟩ = some (.int .i64 di.k) ∧ X.cell? ⟨g1, o1 + k * 13 + 4, none⟩ = some (.int .i64 di.n) ∧ X.cell? ⟨g1, o1 + k * 13 + 5, none⟩ = some (.string di.s) ∧ X.cell? ⟨g1, o1 + k * 13 + 6, none⟩ = some (.slice di.A di.m di.c) ∧
      X.cell? ⟨g1, o1 + k * 13 + 7, none⟩ = some (.int .i64 dd.k) ∧ X.cell? ⟨g1, o1 + k * 13 + 8, none⟩ = some (.int .i64 dd.n) ∧ X.cell? ⟨g1, o1 + k * 13 + 9, none⟩ = some (.string dd.s) ∧ X.cell? ⟨g1, o1 + k * 13 + 10, none⟩ = some (.slice dd.A dd.m dd.c)) (fun _ => true) (by kernel_rfl) ?_
          have hT0 := HQ3.out _ (HXJ.out.trans hcur)
          clear p1 p3 p4 p5 p6 p7 p8 p9 p10
          refine wpE_takeT (i := 0) (d := some 66) (v := ?v1) rfl rfl (by kernel_rfl) (by kernel_rfl) (by kernel_rfl) rfl (fun _ _ _ h => h) (by rfl) ?hy1 hT0 ?go1
          case hy1 =>
            intro w9 hT9
            clear hT9
            go_simp
            try with_reducible rfl
          (try simp only [Act.put, List.setIfInBounds_toArray, List.set_cons_zero, List.set_cons_succ])
          refine wpE_takeT (i := 1) (d := some 67) (v := ?v2) rfl rfl (by kernel_rfl) (by kernel_rfl) (by kernel_rfl) rfl (fun _ _ _ h => h) (by rfl) ?hy2 hT0 ?go2
          case hy2 =>
            intro w9 hT9
            clear hT9
            go_simp
            try with_reducible rfl
          (try simp only [Act.put, List.setIfInBounds_toArray, List.set_cons_zero, List.set_cons_succ])
          refine wpE_takeT (i := 2) (d := some 68) (v := ?v3) rfl rfl (by kernel_rfl) (by kernel_rfl) (by kernel_rfl) rfl (fun _ _ _ h => h) (by rfl) ?hy3 hT0 ?go3
          case hy3 =>
            intro w9 hT9
            clear hT9
            go_simp
            try with_reducible rfl
          (try simp only [Act.put, List.setIfInBounds_toArray, List.set_cons_zero, List.set_cons_succ])
          refine wpE_takeT (i := 3) (d := some 69) (v := ?v4) rfl rfl (by kernel_rfl) (by kernel_rfl) (by kernel_rfl) rfl (fun _ _ _ h => h) (by rfl) ?hy4 hT0 ?go4
          case hy4 =>
            intro w9 hT9
            clear hT9
            go_simp
            try with_reducible rfl
          (try simp only [Act.put, List.setIfInBounds_toArray, List.set_cons_zero, List.set_cons_succ])
          refine wpE_takeT (i := 4) (d := some 70) (v := ?v5) rfl rfl (by kernel_rfl) (by kernel_rfl) (by kernel_rfl) rfl (fun _ _ _ h => h) (by rfl) ?hy5 hT0 ?go5
          case hy5 =>
            intro w9 hT9
            obtain ⟨q1, q3, q4, q5, q6, q7, q8, q9, q10⟩ := hT9
            go_simp
            try with_reducible rfl
          (try simp only [Act.put, List.setIfInBounds_toArray, List.set_cons_zero, List.set_cons_succ])
          refine wpE_takeT (i := 5) (d := some 71) (v := ?v6) rfl rfl (by kernel_rfl) (by kernel_rfl) (by kernel_rfl) rfl (fun _ _ _ h => h) (by rfl) ?hy6 hT0 ?go6
          case hy6 =>
            intro w9 hT9
            clear hT9
            go_simp
            try with_reducible rfl
          (try simp only [Act.put, List.setIfInBounds_toArray, List.set_cons_zero, List.set_cons_succ])
          refine wpE_takeT (i := 6) (d := some 72) (v := ?v7) rfl rfl (by kernel_rfl) (by kernel_rfl) (by kernel_rfl) rfl (fun _ _ _ h => h) (by rfl) ?hy7 hT0 ?go7
          case hy7 =>
            intro w9 hT9
            clear hT9
            go_simp
            try with_reducible rfl
          (try simp only [Act.put, List.setIfInBounds_toArray, List.set_cons_zero, List.set_cons_succ])
          refine wpE_all (rs := [7]) (by kernel_rfl) (by simp) ?_
          refine AllE.cons rfl (fun K hK => ?_) AllE.nil
          simp only [List.getElem_toArray, List.getElem_cons_succ, List.getElem_cons_zero]
          go_simp
          go_at_call 29
          refine (HO3.out _ (HXJ.out.trans hcur)).mono ?_
          rintro e wn ⟨rfl, hx⟩
          replace hcur := hcur.trans hx
          simp only []
          replace hT0 := HQ3.out _ (HXJ.out.trans hcur)
          refine hK.out _ _ ⟨fun _ => trivial, hT0⟩ (fun _ => ?_)
          clear hK K hx
          (try simp only [Act.put, List.setIfInBounds_toArray, List.set_cons_zero, List.set_cons_succ])
          refine wpE_takeT (i := 8) (d := some 74) (v := ?v8) rfl rfl (by kernel_rfl) (by kernel_rfl) (by kernel_rfl) rfl (fun _ _ _ h => h) (by rfl) ?hy8 hT0 ?go8
          case hy8 =>
            intro w9 hT9
            clear hT9
            go_simp
            try with_reducible rfl
          (try simp only [Act.put, List.setIfInBounds_toArray, List.set_cons_zero, List.set_cons_succ])
          refine wpE_takeT (i := 9) (d := some 75) (v := ?v9) rfl rfl (by kernel_rfl) (by kernel_rfl) (by kernel_rfl) rfl (fun _ _ _ h => h) (by rfl) ?hy9 hT0 ?go9
          case hy9 =>
            intro w9 hT9
            clear hT9
            go_simp
            try with_reducible rfl
          (try simp only [Act.put, List.setIfInBounds_toArray, List.set_cons_zero, List.set_cons_succ])
          refine wpE_takeT (i := 10) (d := some 76) (v := ?v10) rfl rfl (by kernel_rfl) (by kernel_rfl) (by kernel_rfl) rfl (fun _ _ _ h => h) (by rfl) ?hy10 hT0 ?go10
          case hy10 =>
            intro w9 hT9
            clear hT9
            go_simp
            try with_reducible rfl
          (try simp only [Act.put, List.setIfInBounds_toArray, List.set_cons_zero, List.set_cons_succ])
          refine wpE_takeT (i := 11) (d := some 77) (v := ?v11) rfl rfl (by kernel_rfl) (by kernel_rfl) (by kernel_rfl) rfl (fun _ _ _ h => h) (by rfl) ?hy11 hT0 ?go11
          case hy11 =>
            intro w9 hT9
            clear hT9
            go_simp
            try with_reducible rfl
          (try simp only [Act.put, List.setIfInBounds_toArray, List.set_cons_zero, List.set_cons_succ])
          refine wpE_takeT (i := 12) (d := some 78) (v := ?v12) rfl rfl (by kernel_rfl) (by kernel_rfl) (by kernel_rfl) rfl (fun _ _ _ h => h) (by rfl) ?hy12 hT0 ?go12
          case hy12 =>
            intro w9 hT9
            clear hT9
            go_simp
            try with_reducible rfl
          (try simp only [Act.put, List.setIfInBounds_toArray, List.set_cons_zero, List.set_cons_succ])
          refine wpE_takeT (i := 13) (d := some 79) (v := ?v13) rfl rfl (by kernel_rfl) (by kernel_rfl) (by kernel_rfl) rfl (fun _ _ _ h => h) (by rfl) ?hy13 hT0 ?go13
          case hy13 =>
            intro w9 hT9
            clear hT9
            go_simp
            try with_reducible rfl
          (try simp only [Act.put, List.setIfInBounds_toArray, List.set_cons_zero, List.set_cons_succ])
          refine wpE_takeT (i := 14) (d := some 80) (v := ?v14) rfl rfl (by kernel_rfl) (by kernel_rfl) (by kernel_rfl) rfl (fun _ _ _ h => h) (by rfl) ?hy14 hT0 ?go14
          case hy14 =>
            intro w9 hT9
            obtain ⟨q1, q3, q4, q5, q6, q7, q8, q9, q10⟩ := hT9
            go_simp
            try with_reducible rfl
          (try simp only [Act.put, List.setIfInBounds_toArray, List.set_cons_zero, List.set_cons_succ])
          refine wpE_takeT (i := 15) (d := some 81) (v := ?v15) rfl rfl (by kernel_rfl) (by kernel_rfl) (by kernel_rfl) rfl (fun _ _ _ h => h) (by rfl) ?hy15 hT0 ?go15
          case hy15 =>
            intro w9 hT9
            clear hT9
            go_simp
            try with_reducible rfl
          (try simp only [Act.put, List.setIfInBounds_toArray, List.set_cons_zero, List.set_cons_succ])
          refine wpE_all (rs := [16]) (by kernel_rfl) (by simp) ?_
          refine AllE.cons rfl (fun K hK => ?_) AllE.nil
          simp only [List.getElem_toArray, List.getElem_cons_succ, List.getElem_cons_zero]
          go_simp
          go_at_call 30
          refine (HKD.out _ (HXJ.out.trans hcur)).mono ?_
          rintro e wn ⟨rfl, hx⟩
          replace hcur := hcur.trans hx
          simp only []
          replace hT0 := HQ3.out _ (HXJ.out.trans hcur)
          refine hK.out _ _ ⟨fun _ => trivial, hT0⟩ (fun _ => ?_)
          clear hK K hx
          (try simp only [Act.put, List.setIfInBounds_toArray, List.set_cons_zero, List.set_cons_succ])
          refine wpE_takeT (i := 17) (d := some 83) (v := ?v16) rfl rfl (by kernel_rfl) (by kernel_rfl) (by kernel_rfl) rfl (fun _ _ _ h => h) (by rfl) ?hy16 hT0 ?go16
          case hy16 =>
            intro w9 hT9
            clear hT9
            go_simp
            try with_reducible rfl
          (try simp only [Act.put, List.setIfInBounds_toArray, List.set_cons_zero, List.set_cons_succ])
          refine wpE_takeT (i := 18) (d := some 84) (v := ?v17) rfl rfl (by kernel_rfl) (by kernel_rfl) (by kernel_rfl) rfl (fun _ _ _ h => h) (by rfl) ?hy17 hT0 ?go17
          case hy17 =>
            intro w9 hT9
            clear hT9
            go_simp
            try with_reducible rfl
          (try simp only [Act.put, List.setIfInBounds_toArray, List.set_cons_zero, List.set_cons_succ])
          refine wpE_takeT (i := 19) (d := some 85) (v := ?v18) rfl rfl (by kernel_rfl) (by kernel_rfl) (by kernel_rfl) rfl (fun _ _ _ h => h) (by rfl) ?hy18 hT0 ?go18
          case hy18 =>
            intro w9 hT9
            clear hT9
            go_simp
            try with_reducible rfl
          (try simp only [Act.put, List.setIfInBounds_toArray, List.set_cons_zero, List.set_cons_succ])
          refine wpE_takeT (i := 20) (d := some 86) (v := ?v19) rfl rfl (by kernel_rfl) (by kernel_rfl) (by kernel_rfl) rfl (fun _ _ _ h => h) (by rfl) ?hy19 hT0 ?go19
          case hy19 =>
            intro w9 hT9
            clear hT9
            go_simp
            try with_reducible rfl
          (try simp only [Act.put, List.setIfInBounds_toArray, List.set_cons_zero, List.set_cons_succ])
          refine wpE_takeT (i := 21) (d := some 87) (v := ?v20) rfl rfl (by kernel_rfl) (by kernel_rfl) (by kernel_rfl) rfl (fun _ _ _ h => h) (by rfl) ?hy20 hT0 ?go20
          case hy20 =>
            intro w9 hT9
            clear hT9
            go_simp
            try with_reducible rfl
          (try simp only [Act.put, List.setIfInBounds_toArray, List.set_cons_zero, List.set_cons_succ])
          refine wpE_takeT (i := 22) (d := some 88) (v := ?v21) rfl rfl (by kernel_rfl) (by kernel_rfl) (by kernel_rfl) rfl (fun _ _ _ h => h) (by rfl) ?hy21 hT0 ?go21
          case hy21 =>
            intro w9 hT9
            clear hT9
            go_simp
            try with_reducible rfl
          (try simp only [Act.put, List.setIfInBounds_toArray, List.set_cons_zero, List.set_cons_succ])
          refine wpE_takeT (i := 23) (d := some 89) (v := ?v22) rfl rfl (by kernel_rfl) (by kernel_rfl) (by kernel_rfl) rfl (fun _ _ _ h => h) (by rfl) ?hy22 hT0 ?go22
          case hy22 =>
            intro w9 hT9
            clear hT9
            go_simp
            try with_reducible rfl
          (try simp only [Act.put, List.setIfInBounds_toArray, List.set_cons_zero, List.set_cons_succ])
          refine wpE_takeT (i := 24) (d := some 90) (v := ?v23) rfl rfl (by kernel_rfl) (by kernel_rfl) (by kernel_rfl) rfl (fun _ _ _ h => h) (by rfl) ?hy23 hT0 ?go23
          case hy23 =>
            intro w9 hT9
            obtain ⟨q1, q3, q4, q5, q6, q7, q8, q9, q10⟩ := hT9
            go_simp
            try with_reducible rfl
          (try simp only [Act.put, List.setIfInBounds_toArray, List.set_cons_zero, List.set_cons_succ])
          refine wpE_all (rs := [25]) (by kernel_rfl) (by simp) ?_
          refine AllE.cons rfl (fun K hK => ?_) AllE.nil
          simp only [List.getElem_toArray, List.getElem_cons_succ, List.getElem_cons_zero]
          go_simp
          go_at_call 31
          refine (true_any _).mono ?_
          rintro e wn ⟨rfl, hx⟩
          replace hcur := hcur.trans hx
          simp only []
          replace hT0 := HQ3.out _ (HXJ.out.trans hcur)
          refine hK.out _ _ ⟨fun _ => trivial, hT0⟩ (fun _ => ?_)
          clear hK K hx
          (try simp only [Act.put, List.setIfInBounds_toArray, List.set_cons_zero, List.set_cons_succ])
          refine wpE_all (rs := [26]) (by kernel_rfl) (by simp) ?_
          refine AllE.cons rfl (fun K hK => ?_) AllE.nil
          simp only [List.getElem_toArray, List.getElem_cons_succ, List.getElem_cons_zero]
          go_simp
          go_at_call 20
          refine (HSM.out _ (HXJ.out.trans hcur)).mono ?_
          rintro e wn ⟨rfl, hx⟩
          replace hcur := hcur.trans hx
          simp only []
          replace hT0 := HQ3.out _ (HXJ.out.trans hcur)
          refine hK.out _ _ ⟨fun _ => trivial, hT0⟩ (fun _ => ?_)
          clear hK K hx
          (try simp only [Act.put, List.setIfInBounds_toArray, List.set_cons_zero, List.set_cons_succ])
          refine wpE_takeT (i := 27) (d := some 93) (v := ?v24) rfl rfl (by kernel_rfl) (by kernel_rfl) (by kernel_rfl) rfl (fun _ _ _ h => h) (by rfl) ?hy24 hT0 ?go24
          case hy24 =>
            intro w9 hT9
            clear hT9
            go_simp
            try with_reducible rfl
          (try simp only [Act.put, List.setIfInBounds_toArray, List.set_cons_zero, List.set_cons_succ])
          refine wpE_takeT (i := 28) (d := some 94) (v := ?v25) rfl rfl (by kernel_rfl) (by kernel_rfl) (by kernel_rfl) rfl (fun _ _ _ h => h) (by rfl) ?hy25 hT0 ?go25
          case hy25 =>
            intro w9 hT9
            clear hT9
            go_simp
            try with_reducible rfl
          (try simp only [Act.put, List.setIfInBounds_toArray, List.set_cons_zero, List.set_cons_succ])
          refine wpE_takeU (i := 29) (d := some 95) rfl rfl (by kernel_rfl) (by kernel_rfl) (by kernel_rfl) rfl (fun _ _ _ h => h) (by rfl) hT0 ?_
          (try simp only [Act.put, List.setIfInBounds_toArray, List.set_cons_zero, List.set_cons_succ])
          refine wpE_takeU (i := 30) (d := some 96) rfl rfl (by kernel_rfl) (by kernel_rfl) (by kernel_rfl) rfl (fun _ _ _ h => h) (by rfl) hT0 ?_
          (try simp only [Act.put, List.setIfInBounds_toArray, List.set_cons_zero, List.set_cons_succ])
          refine wpE_takeU (i := 31) (d := some 97) rfl rfl (by kernel_rfl) (by kernel_rfl) (by kernel_rfl) rfl (fun _ _ _ h => h) (by rfl) hT0 ?_
          (try simp only [Act.put, List.setIfInBounds_toArray, List.set_cons_zero, List.set_cons_succ])
          refine wpE_takeU (i := 32) (d := some 98) rfl rfl (by kernel_rfl) (by kernel_rfl) (by kernel_rfl) rfl (fun _ _ _ h => h) (by rfl) hT0 ?_
          (try simp only [Act.put, List.setIfInBounds_toArray, List.set_cons_zero, List.set_cons_succ])
          refine wpE_takeU (i := 33) (d := some 99) rfl rfl (by kernel_rfl) (by kernel_rfl) (by kernel_rfl) rfl (fun _ _ _ h => h) (by rfl) hT0 ?_
          (try simp only [Act.put, List.setIfInBounds_toArray, List.set_cons_zero, List.set_cons_succ])
          refine wpE_takeU (i := 34) (d := some 100) rfl rfl (by kernel_rfl) (by kernel_rfl) (by kernel_rfl) rfl (fun _ _ _ h => h) (by rfl) hT0 ?_
          (try simp only [Act.put, List.setIfInBounds_toArray, List.set_cons_zero, List.set_cons_succ])
          refine wpE_takeU (i := 35) (d := some 101) rfl rfl (by kernel_rfl) (by kernel_rfl) (by kernel_rfl) rfl (fun _ _ _ h => h) (by rfl) hT0 ?_
          (try simp only [Act.put, List.setIfInBounds_toArray, List.set_cons_zero, List.set_cons_succ])
          refine wpE_takeU (i := 36) (d := some 102) rfl rfl (by kernel_rfl) (by kernel_rfl) (by kernel_rfl) rfl (fun _ _ _ h => h) (by rfl) hT0 ?_
          (try simp only [Act.put, List.setIfInBounds_toArray, List.set_cons_zero, List.set_cons_succ])
          refine wpE_takeT (i := 37) (d := some 103) (v := ?v34) rfl rfl (by kernel_rfl) (by kernel_rfl) (by kernel_rfl) rfl (fun _ _ _ h => h) (by rfl) ?hy34 hT0 ?go34
          case hy34 =>
            intro w9 hT9
            clear hT9
            go_simp
            try with_reducible rfl
          (try simp only [Act.put, List.setIfInBounds_toArray, List.set_cons_zero, List.set_cons_succ])
          refine wpE_takeT (i := 38) (d := some 104) (v := ?v35) rfl rfl (by kernel_rfl) (by kernel_rfl) (by kernel_rfl) rfl (fun _ _ _ h => h) (by rfl) ?hy35 hT0 ?go35
          case hy35 =>
            intro w9 hT9
            clear hT9
            go_simp
            try with_reducible rfl
          (try simp only [Act.put, List.setIfInBounds_toArray, List.set_cons_zero, List.set_cons_succ])
          refine wpE_done (by kernel_rfl) ?_ _
          go_wp2_with fail
          exact ⟨⟨k + 1, by omega, by simp, HXL.out.trans hcur⟩, by simp only [toM]; omega⟩
        case false =>
          have hcur : Ext wr wr.drew := (Ext.refl _).drew
          go_region_held3 (fun X => X.cell? ⟨g1, o1 + k * 13 + 1, none⟩ = some (.int .i64 df) ∧ X.cell? ⟨g1, o1 + k * 13 + 3, none⟩ = some (.int .i64 di.k) ∧ X.cell? ⟨g1, o1 + k * 13 + 4, none⟩ = some (.int .i64 di.n) ∧ X.cell? ⟨g1, o1 + k * 13 + 5, none⟩ = some (.string di.s) ∧ X.cell? ⟨g1, o1 + k * 13 + 6, none⟩ = some (.slice di.A di.m di.c) ∧
      X.cell? ⟨g1, o1 + k * 13 + 7, none⟩ = some (.int .i64 dd.k) ∧ X.cell? ⟨g1, o1 + k * 13 + 8, none⟩ = some (.int .i64 dd.n) ∧ X.cell? ⟨g1, o1 + k * 13 + 9, none⟩ = some (.string dd.s) ∧ X.cell? ⟨g1, o1 + k * 13 + 10, none⟩ = some (.slice dd.A dd.m dd.c)) (first | exact HQ3.out _ (HXJ.out.trans hcur) | go_keep)
            (first
              | (have hg := A1; clear hg; go_at_call 30; refine (HKI.out _ (HXJ.out.trans hcur)).mono ?_; rintro e wn ⟨rfl, hx⟩; have hcur := hcur.trans hx; clear hx)
              | (go_at_call 29; refine (HO3.out _ (HXJ.out.trans hcur)).mono ?_; rintro e wn ⟨rfl, hx⟩; have hcur := hcur.trans hx; clear hx)
              | (go_at_call 30; refine (HKD.out _ (HXJ.out.trans hcur)).mono ?_; rintro e wn ⟨rfl, hx⟩; have hcur := hcur.trans hx; clear hx)
              | (go_at_call 31; refine (true_any _).mono ?_; rintro e wn ⟨rfl, hx⟩; have hcur := hcur.trans hx; clear hx)
              | (go_at_call 20; refine (HSM.out _ (HXJ.out.trans hcur)).mono ?_; rintro e wn ⟨rfl, hx⟩; have hcur := hcur.trans hx; have A1 := Lib.hid True.intro; clear hx))
          go_wp2
          exact ⟨⟨k + 1, by omega, by simp, HXL.out.trans hcur⟩, by simp only [toM]; omega⟩
end Go.Proofs.YtnpenepdechkjaaGreatDoor
