/- The reference's Print. -/
import Derived.Test.YtnpenepdechkjaaGreatDoorVd
import Derived.Test.YtnpenepdechkjaaGreatDoorMf
import Derived.Test.YtnpenepdechkjaaGreatDoorQp
namespace Go.Proofs.YtnpenepdechkjaaGreatDoor
open Go Go.RowKit

/-- Rules that both print alike. -/
structure GRP (r : Rl) : Prop where
 gr : GR r
 on_ : r.on_ ≠ []
 iz : tsz r.if_ ≤ 100000
 dz : tsz r.due ≤ 100000
 eq : eqT r.if_ trTrue = decide (trK r.if_ = 2 ∧ trN r.if_ = 1)
theorem GD.true_ {B : Nat} {t : Tr} (h : GD B t) : eqT t trTrue = decide (trK t = 2 ∧ trN t = 1) := by
 rw [Bool.eq_iff_iff, eqT_iff, decide_eq_true_eq]
 constructor
 ·rintro rfl; exact ⟨rfl, rfl⟩
 ·rintro ⟨h1, h2⟩
  cases h <;> simp_all [trK, trN, trTrue]
  all_goals (rename_i hk _ _ _ _ _; rcases hk with rfl | rfl <;> cases h1)
theorem GQ.grp {x : Rl} (h : GQ x) (h1 : tsz x.if_ ≤ 100000) (h2 : tsz x.due ≤ 100000) : GRP x := ⟨h.gr h1 h2, fun e => by have := h.on_.1.1; exact absurd e (by simpa using this), h1, h2, h.if_.true_⟩
theorem emp_f {D : ByteArray} {x : List UInt8} (h : D = bs x) (hv : (!D.toList.isEmpty) = false) : x = [] := by
 rw [h, bs_list] at hv
 cases x with
 | nil => rfl
 | cons a l => cases hv
theorem emp_t {D : ByteArray} {x : List UInt8} (h : D = bs x) (hv : (!D.toList.isEmpty) = true) : x ≠ [] := by
 rintro rfl
 rw [h, bs_list] at hv
 cases hv
def RfRel (W : World) (l : List Rl) (s3 s4 : Value) (X : World) : Prop := ∃ (k : Nat) (S : ByteArray), k ≤ l.length ∧ s4 = .int .i64 k ∧ s3 = .string S ∧ S = bs (printL (l.take k)) ∧ Ext W X
set_option maxHeartbeats 8000000 in
set_option maxRecDepth 100000 in
theorem rprint24_any (P : Nat → Prop) (A : Option Addr) (c : Nat) (l : List Rl) (W : World) (hl : l.length ≤ 100000) (hG : ∀ r ∈ l, GRP r) (h : RW W P A l.length l) (htab : Tab W) : Calls Tryz.prog 24 #[.slice A l.length c] W (StrPost (printL l) W) := by
 have HRW := Lib.hid h
 have HTB := Lib.hid htab
 have HG := Lib.hid hG
 have HLN := Lib.hid (fun k => (Nat.le_trans (printL_len (l := l.take k) (fun r hr => (hG r (List.mem_of_mem_take hr)).gr)) (Nat.mul_le_mul_right _ (by rw [List.length_take]; omega)) : (printL (l.take k)).length ≤ 100000 * 30000000))
 clear h htab hG
 go_enter Tryz.func24, Tryz.ntmps24
 go_wp2
 go_loopw [3, 4] (fun s3 s4 X => RfRel W l s3 s4 X) (fun _ s4 _ => toM l.length s4)
 case atStart => exact ⟨0, ⟨#[]⟩, Nat.zero_le _, rfl, rfl, rfl, Ext.refl _⟩
 case round =>
  obtain ⟨k, S, hk, rfl, rfl, hS, hx⟩ := hrel
  have HX := Lib.hid hx
  have HS := Lib.hid hS
  clear hx hS
  by_cases hlt : k < l.length
  case neg =>
   obtain rfl : k = l.length := by omega
   have hni : ¬ (l.length : Int) < (l.length : Int) := by omega
   have HF := Lib.hid (show S = ⟨(printL l).toArray⟩ by have := HS.out; rwa [List.take_length] at this)
   clear hlt hk
   go_wp2
   go_ret
   exact ⟨congrArg (fun z => Ending.returned (.string z)) HF.out, HX.out⟩
  have hlt' : (k : Int) < l.length := by omega
  obtain ⟨g, off, d, r, hA, hg, hr, hm, hrp, p0, p1, p2, p3, p4, p5, p6, p7, p8, p9, p10, p11, p12⟩ := HRW.out.at_ hlt
  subst hA
  replace p0 := cells_ext p0 HX.out
  replace p1 := cells_ext p1 HX.out
  replace p2 := cells_ext p2 HX.out
  replace p3 := cells_ext p3 HX.out
  replace p4 := cells_ext p4 HX.out
  replace p5 := cells_ext p5 HX.out
  replace p6 := cells_ext p6 HX.out
  replace p7 := cells_ext p7 HX.out
  replace p8 := cells_ext p8 HX.out
  replace p9 := cells_ext p9 HX.out
  replace p10 := cells_ext p10 HX.out
  replace p11 := cells_ext p11 HX.out
  replace p12 := cells_ext p12 HX.out
  have hgr := HG.out r hm
  have HFI := Lib.hid (printL_step l k r hr)
  have hl0 := HLN.out k
  obtain ⟨l0, hl0e⟩ : ∃ x, x = printL (l.take k) := ⟨_, rfl⟩
  rw [← hl0e] at hl0 HFI HS
  clear hl0e hr hm
  have HRP := Lib.hid (hrp.ext HX.out)
  have hfr := hrp.from_
  have HNM := Lib.hid hrp.name
  have HON := Lib.hid hrp.on_
  have HUN := Lib.hid hrp.unless_
  have HEL := Lib.hid hrp.else_
  clear hrp
  obtain ⟨dn, df, don, di, dd, du, de⟩ := d
  simp only at hfr p0 p1 p2 p3 p4 p5 p6 p7 p8 p9 p10 p11 p12 HNM HON HUN HEL
  obtain ⟨m, hmm⟩ := Int.eq_ofNat_of_zero_le hgr.gr.fr.1
  have hm2 : m ≤ 3652058 := by have := hgr.gr.fr.2; omega
  rw [hmm] at hfr
  subst hfr
  have HGR := Lib.hid hgr
  have HMM := Lib.hid (show r.from_.toNat = m by omega)
  have hnl := hgr.gr.nm
  have hol := hgr.gr.on_
  have hul := hgr.gr.un
  have hel := hgr.gr.el
  have hil := Nat.le_trans (showT_len hgr.gr.ti) hgr.gr.bi
  have hdl := Nat.le_trans (showT_len hgr.gr.td) hgr.gr.bd
  clear hgr hmm
  have hX1 : Ext wr (wr.alloc (.cells #[.string dn, .int .i64 m, .string don, .int .i64 di.k, .int .i64 di.n, .string di.s, .slice di.A di.m di.c, .int .i64 dd.k, .int .i64 dd.n, .string dd.s, .slice dd.A dd.m dd.c, .string du, .string de] 50)) := (Ext.refl _).alloc _
  have hRX : RX (wr.alloc (.cells #[.string dn, .int .i64 m, .string don, .int .i64 di.k, .int .i64 di.n, .string di.s, .slice di.A di.m di.c, .int .i64 dd.k, .int .i64 dd.n, .string dd.s, .slice dd.A dd.m dd.c, .string du, .string de] 50)) wr.heap.size ⟨dn, m, don, di, dd, du, de⟩ := heap_alloc_new _ _
  go_upto_region 6 with (fail)
  clear p0 p1 p2 p3 p4 p5 p6 p7 p8 p9 p10 p11 p12
  generalize wr.alloc (.cells #[.string dn, .int .i64 m, .string don, .int .i64 di.k, .int .i64 di.n, .string di.s, .slice di.A di.m di.c, .int .i64 dd.k, .int .i64 dd.n, .string dd.s, .slice dd.A dd.m dd.c, .string du, .string de] 50) = w1 at *
  generalize wr.heap.size = g5 at *
  have HX1 := Lib.hid (HX.out.trans hX1)
  have HQ := Lib.hid (fun X (hX : Ext w1 X) => (show RX X g5 ⟨dn, m, don, di, dd, du, de⟩ from (hX.block _ (lt_of_block hRX)).trans hRX).cs)
  have HI := Lib.hid (fun X (hX : Ext w1 X) => (HRP.out.if_.ext hX1).ext hX)
  have HD := Lib.hid (fun X (hX : Ext w1 X) => (HRP.out.due.ext hX1).ext hX)
  simp only at HI HD HQ
  clear hX1 hRX HRP
  obtain ⟨D, hD⟩ : ∃ D, D = bs (prL m) := ⟨_, rfl⟩
  have hDs : D.size = 10 := by rw [hD, bs_size, prL_size hm2]
  have hSs : S.size = l0.length := by rw [HS.out, bs_size]
  have hdns : dn.size = r.name.length := by rw [HNM.out, bs_size]
  have hdos : don.size = r.on_.length := by rw [HON.out, bs_size]
  have q0 : ¬ 9223372036854775807 < S.size + 5 := by omega
  have q1 : ¬ 9223372036854775807 < S.size + 5 + dn.size := by omega
  have q2 : ¬ 9223372036854775807 < S.size + 5 + dn.size + 7 := by omega
  have q3 : ¬ 9223372036854775807 < S.size + 5 + dn.size + 7 + D.size := by omega
  have q4 : ¬ 9223372036854775807 < S.size + 5 + dn.size + 7 + D.size + 8 := by omega
  have q5 : ¬ 9223372036854775807 < S.size + 5 + dn.size + 7 + D.size + 8 + don.size := by omega
  have q6 : ¬ 9223372036854775807 < S.size + 5 + dn.size + 7 + D.size + 8 + don.size + 2 := by omega
  obtain ⟨L1, hL1⟩ : ∃ x, x = l0 ++ ([114, 117, 108, 101, 32] ++ r.name ++ [32, 102, 114, 111, 109, 32, 64] ++ prL m ++ [32, 123, 10]) ++ lineL [111, 110] r.on_ := ⟨_, rfl⟩
  have he : S ++ ⟨#[114, 117, 108, 101, 32]⟩ ++ dn ++ ⟨#[32, 102, 114, 111, 109, 32, 64]⟩ ++ D ++ ⟨#[32, 123, 10, 32, 32, 111, 110, 32]⟩ ++ don ++ ⟨#[59, 10]⟩ = bs L1 := by
   rw [hL1, lineL, if_neg HGR.out.on_, HS.out, HNM.out, HON.out, hD, show (⟨#[114, 117, 108, 101, 32]⟩ : ByteArray) = bs [114, 117, 108, 101, 32] from rfl, show (⟨#[32, 102, 114, 111, 109, 32, 64]⟩ : ByteArray) = bs [32, 102, 114, 111, 109, 32, 64] from rfl, show (⟨#[32, 123, 10, 32, 32, 111, 110, 32]⟩ : ByteArray) = bs [32, 123, 10, 32, 32, 111, 110, 32] from rfl, show (⟨#[59, 10]⟩ : ByteArray) = bs [59, 10] from rfl, bs_app, bs_app, bs_app, bs_app, bs_app, bs_app, bs_app]
   congr 1; simp
  have hL1l : L1.length ≤ 3000000400000 := by
   have h9 := lineL_len [111, 110] r.on_
   rw [hL1]; simp only [List.length_append, List.length_cons, List.length_nil] at h9 ⊢; rw [prL_size hm2]; omega
  have HL1 := Lib.hid hL1
  have HE1 := Lib.hid he
  have HPR := Lib.hid (fun X (hX : Ext w1 X) => (show Calls Tryz.prog 52 #[.int .i64 (m : Nat)] X (fun e X' => e = .returned (.string D) ∧ Ext X X') from by
   have h9 := rprint_any m X hm2 (HTB.out.ext (HX1.out.trans hX))
   unfold StrPost at h9
   rw [hD]; exact h9))
  have HQ1 := Lib.hid (fun X (hX : Ext w1 X) => (show X.cell? ⟨g5, 0, none⟩ = some (.string dn) ∧ X.cell? ⟨g5, 1, none⟩ = some (.int .i64 (m : Nat)) ∧ X.cell? ⟨g5, 2, none⟩ = some (.string don) from ⟨(HQ.out X hX).1, (HQ.out X hX).2.1, (HQ.out X hX).2.2.1⟩))
  obtain ⟨p0, p1, p2⟩ := HQ1.out w1 (Ext.refl _)
  have hcur : Ext w1 w1.drew := (Ext.refl _).drew
  clear hD hDs hdns hdos he hL1 hSs
  go_region_held3 (fun X => X.cell? ⟨g5, 0, none⟩ = some (.string dn) ∧ X.cell? ⟨g5, 1, none⟩ = some (.int .i64 (m : Nat)) ∧ X.cell? ⟨g5, 2, none⟩ = some (.string don)) (first | exact HQ1.out _ hcur | go_keep)
   (first | (go_at_call 52; refine (HPR.out _ hcur).mono ?_; rintro e wn ⟨rfl, hx⟩; have hcur := hcur.trans hx; clear hx))
  clear p0 p1 p2 q0 q1 q2 q3 q4 q5 q6 HPR HQ1
  obtain ⟨S1, hS1⟩ : ∃ S1, S1 = S ++ ⟨#[114, 117, 108, 101, 32]⟩ ++ dn ++ ⟨#[32, 102, 114, 111, 109, 32, 64]⟩ ++ D ++ ⟨#[32, 123, 10, 32, 32, 111, 110, 32]⟩ ++ don ++ ⟨#[59, 10]⟩ := ⟨_, rfl⟩
  rw [← hS1]
  have HS1 := Lib.hid (hS1.trans HE1.out)
  clear hS1 HE1
  have HXN := Lib.hid hcur
  clear hcur
  have HSM := Lib.hid (fun X (hX : Ext wn X) => (show Calls Tryz.prog 20 #[.agg #[.int .i64 di.k, .int .i64 di.n, .string di.s, .slice di.A di.m di.c], .agg #[.int .i64 2, .int .i64 1, .string ⟨#[]⟩, .slice none 0 0]] X (BQ2 (decide (trK r.if_ = 2 ∧ trN r.if_ = 1)) X) from by
   have h9 := same_any 100000 r.if_ trTrue di ⟨2, 1, ⟨#[]⟩, none, 0, 0⟩ _ (fun _ => True) X HGR.out.iz (Nat.le_trans HGR.out.iz (by decide)) (by decide) (HI.out _ (HXN.out.trans hX)) (Rep.leaf _ _ 2 1 [])
   rw [HGR.out.eq] at h9; exact h9))
  have HQ2 := Lib.hid (fun X (hX : Ext wn X) => (show X.cell? ⟨g5, 3, none⟩ = some (.int .i64 di.k) ∧ X.cell? ⟨g5, 4, none⟩ = some (.int .i64 di.n) ∧ X.cell? ⟨g5, 5, none⟩ = some (.string di.s) ∧ X.cell? ⟨g5, 6, none⟩ = some (.slice di.A di.m di.c) from ⟨(HQ.out X (HXN.out.trans hX)).2.2.2.1, (HQ.out X (HXN.out.trans hX)).2.2.2.2.1, (HQ.out X (HXN.out.trans hX)).2.2.2.2.2.1, (HQ.out X (HXN.out.trans hX)).2.2.2.2.2.2.1⟩))
  obtain ⟨p3, p4, p5, p6⟩ := HQ2.out wn (Ext.refl _)
  obtain ⟨v, hv⟩ : ∃ v, v = decide (trK r.if_ = 2 ∧ trN r.if_ = 1) := ⟨_, rfl⟩
  rw [← hv] at HSM
  have HV := Lib.hid hv
  clear hv
  go_upto_region 7 with (fail)
  have hcur : Ext wn wn.drew := (Ext.refl _).drew
  go_region_held3 (fun X => X.cell? ⟨g5, 3, none⟩ = some (.int .i64 di.k) ∧ X.cell? ⟨g5, 4, none⟩ = some (.int .i64 di.n) ∧ X.cell? ⟨g5, 5, none⟩ = some (.string di.s) ∧ X.cell? ⟨g5, 6, none⟩ = some (.slice di.A di.m di.c)) (first | exact HQ2.out _ hcur | go_keep)
   (first
    | (go_at_call 31; refine (true_any _).mono ?_; rintro e5 wa ⟨rfl, hx⟩; have hcur := hcur.trans hx; clear hx)
    | (go_at_call 20; refine (HSM.out _ hcur).mono ?_; rintro e6 wm ⟨rfl, hx⟩; have hcur := hcur.trans hx; clear hx))
  have HXM := Lib.hid (HXN.out.trans hcur)
  clear hcur p3 p4 p5 p6 HSM HQ2
  obtain ⟨p0, p1, p2, p3, p4, p5, p6, p7, p8, p9, p10, p11, p12⟩ := HQ.out wm HXM.out
  obtain ⟨L2, hL2⟩ : ∃ x, x = L1 ++ ifL r.if_ := ⟨_, rfl⟩
  have hL2l : L2.length ≤ 3000020400000 := by
   have h5 : (ifL r.if_).length ≤ 2 + (showT r.if_).length + 5 := by
    unfold ifL
    split
    ·exact Nat.zero_le _
    ·exact lineL_len _ _
   rw [hL2, List.length_append]; omega
  have HL2 := Lib.hid hL2
  have HTI := Lib.hid (show showT r.if_ ≠ [] from show_ne HGR.out.gr.ti)
  have HTD := Lib.hid (show showT r.due ≠ [] from show_ne HGR.out.gr.td)
  have HSI := Lib.hid (fun X (hX : Ext w1 X) => (show Calls Tryz.prog 27 #[.agg #[.int .i64 di.k, .int .i64 di.n, .string di.s, .slice di.A di.m di.c]] X (StrPost (showT r.if_) X) from
   rshow_any 100001 r.if_ di _ X (by have := HGR.out.iz; omega) HGR.out.gr.ti HGR.out.gr.bi (HI.out _ hX) (HTB.out.ext (HX1.out.trans hX))))
  have HSD := Lib.hid (fun X (hX : Ext w1 X) => (show Calls Tryz.prog 27 #[.agg #[.int .i64 dd.k, .int .i64 dd.n, .string dd.s, .slice dd.A dd.m dd.c]] X (StrPost (showT r.due) X) from
   rshow_any 100001 r.due dd _ X (by have := HGR.out.dz; omega) HGR.out.gr.td HGR.out.gr.bd (HD.out _ hX) (HTB.out.ext (HX1.out.trans hX))))
  unfold StrPost at HSI HSD
  obtain ⟨SI, hSI⟩ : ∃ S, S = bs (showT r.if_) := ⟨_, rfl⟩
  obtain ⟨SD, hSD⟩ : ∃ S, S = bs (showT r.due) := ⟨_, rfl⟩
  rw [show (⟨(showT r.if_).toArray⟩ : ByteArray) = SI from hSI.symm] at HSI
  rw [show (⟨(showT r.due).toArray⟩ : ByteArray) = SD from hSD.symm] at HSD
  have hSIs : SI.size = (showT r.if_).length := by rw [hSI, bs_size]
  have hSDs : SD.size = (showT r.due).length := by rw [hSD, bs_size]
  have hS1s : S1.size = L1.length := by rw [HS1.out, bs_size]
  have HSI1 := Lib.hid hSI
  have HSD1 := Lib.hid hSD
  clear hL2 hSI hSD HI HD HX
  go_upto_if 35 with (fail)
  go_cut [3] (fun s3 wx => ∃ S, s3 = .string S ∧ S = bs L2 ∧ Ext wm wx)
  case first =>
   cases v
   case true =>
    go_wp2_with fail
    go_meet
    case rel => exact ⟨S1, rfl, by
     have hv := HV.out
     rw [HS1.out, HL2.out, ifL, if_pos (of_decide_eq_true hv.symm), List.append_nil], Ext.refl _⟩
   case false =>
    have q0 : ¬ 9223372036854775807 < S1.size + 5 := by omega
    have q1 : ¬ 9223372036854775807 < S1.size + 5 + SI.size := by omega
    have q2 : ¬ 9223372036854775807 < S1.size + 5 + SI.size + 2 := by omega
    have HF := Lib.hid (show S1 ++ ⟨#[32, 32, 105, 102, 32]⟩ ++ SI ++ ⟨#[59, 10]⟩ = bs L2 by
     have hv := HV.out
     rw [HS1.out, HL2.out, HSI1.out, ifL, if_neg (of_decide_eq_false hv.symm), lineL, if_neg HTI.out, show (⟨#[32, 32, 105, 102, 32]⟩ : ByteArray) = bs [32, 32, 105, 102, 32] from rfl, show (⟨#[59, 10]⟩ : ByteArray) = bs [59, 10] from rfl, bs_app, bs_app, bs_app]
     congr 1; simp)
    go_wp2_with (first | (go_at_call 27; refine (HSI.out _ HXM.out).mono ?_; rintro e w9 ⟨rfl, hx9⟩))
    go_meet
    case rel => exact ⟨_, rfl, HF.out, hx9⟩
  case rest =>
  obtain ⟨S2, rfl, hS2, hx2⟩ := hcut
  have HX2 := Lib.hid (HXM.out.trans hx2)
  have HS2 := Lib.hid hS2
  have hS2s : S2.size = L2.length := by rw [hS2, bs_size]
  clear hS2 hx2 HXM HSI p0 p1 p2 p3 p4 p5 p6 p7 p8 p9 p10 p11 p12 HV
  obtain ⟨p0, p1, p2, p3, p4, p5, p6, p7, p8, p9, p10, p11, p12⟩ := HQ.out wc HX2.out
  have q0 : ¬ 9223372036854775807 < S2.size + 6 := by omega
  have q1 : ¬ 9223372036854775807 < S2.size + 6 + SD.size := by omega
  have q2 : ¬ 9223372036854775807 < S2.size + 6 + SD.size + 2 := by omega
  obtain ⟨L3, hL3⟩ : ∃ x, x = L2 ++ lineL [100, 117, 101] (showT r.due) := ⟨_, rfl⟩
  have hL3l : L3.length ≤ 3000040400000 := by
   have h5 := lineL_len [100, 117, 101] (showT r.due)
   rw [hL3, List.length_append]; simp only [List.length_cons, List.length_nil] at h5; omega
  have he3 : S2 ++ ⟨#[32, 32, 100, 117, 101, 32]⟩ ++ SD ++ ⟨#[59, 10]⟩ = bs L3 := by
   rw [HS2.out, hL3, HSD1.out, lineL, if_neg HTD.out, show (⟨#[32, 32, 100, 117, 101, 32]⟩ : ByteArray) = bs [32, 32, 100, 117, 101, 32] from rfl, show (⟨#[59, 10]⟩ : ByteArray) = bs [59, 10] from rfl, bs_app, bs_app, bs_app]
   congr 1; simp
  have HE3 := Lib.hid he3
  have HL3 := Lib.hid hL3
  clear hL3 he3
  go_upto_region 10 with (first | (go_at_call 27; refine (HSD.out _ HX2.out).mono ?_; rintro e w9 ⟨rfl, hx9⟩))
  have HX3 := Lib.hid (HX2.out.trans hx9)
  obtain ⟨S3, hS3⟩ : ∃ S1, S1 = S2 ++ ⟨#[32, 32, 100, 117, 101, 32]⟩ ++ SD ++ ⟨#[59, 10]⟩ := ⟨_, rfl⟩
  rw [← hS3]
  have HS3 := Lib.hid (hS3.trans HE3.out)
  have hS3s : S3.size = L3.length := by rw [HS3.out, bs_size]
  clear hS3 hx9 HE3 HSD q0 q1 q2 p0 p1 p2 p3 p4 p5 p6 p7 p8 p9 p10 p11 p12
  obtain ⟨p0, p1, p2, p3, p4, p5, p6, p7, p8, p9, p10, p11, p12⟩ := HQ.out w9 HX3.out
  have hdus : du.size = r.unless_.length := by rw [HUN.out, bs_size]
  have hdes : de.size = r.else_.length := by rw [HEL.out, bs_size]
  obtain ⟨L4, hL4⟩ : ∃ x, x = L3 ++ lineL [117, 110, 108, 101, 115, 115] r.unless_ := ⟨_, rfl⟩
  have hL4l : L4.length ≤ 3000040600000 := by
   have h5 := lineL_len [117, 110, 108, 101, 115, 115] r.unless_
   rw [hL4, List.length_append]; simp only [List.length_cons, List.length_nil] at h5; omega
  have HL4 := Lib.hid hL4
  obtain ⟨L5, hL5⟩ : ∃ x, x = L4 ++ lineL [101, 108, 115, 101] r.else_ := ⟨_, rfl⟩
  have hL5l : L5.length ≤ 3000040800000 := by
   have h5 := lineL_len [101, 108, 115, 101] r.else_
   rw [hL5, List.length_append]; simp only [List.length_cons, List.length_nil] at h5; omega
  have HL5 := Lib.hid hL5
  clear hL4 hL5
  go_upto_if 52 with (fail)
  go_cut [3] (fun s3 wx => ∃ S, s3 = .string S ∧ S = bs L4 ∧ Ext w9 wx)
  case first =>
   generalize hv4 : (!du.toList.isEmpty) = v4
   cases v4
   ·have h0 : r.unless_ = [] := emp_f HUN.out hv4
    clear hv4
    have HF := Lib.hid (show S3 = bs L4 by rw [HS3.out, HL4.out, h0, lineL, if_pos rfl, List.append_nil])
    clear h0
    go_wp2_with fail
    go_meet
    case rel => exact ⟨S3, rfl, HF.out, Ext.refl _⟩
   ·have h0 : r.unless_ ≠ [] := emp_t HUN.out hv4
    clear hv4
    have q0 : ¬ 9223372036854775807 < S3.size + 9 := by omega
    have q1 : ¬ 9223372036854775807 < S3.size + 9 + du.size := by omega
    have q2 : ¬ 9223372036854775807 < S3.size + 9 + du.size + 2 := by omega
    have HF := Lib.hid (show S3 ++ ⟨#[32, 32, 117, 110, 108, 101, 115, 115, 32]⟩ ++ du ++ ⟨#[59, 10]⟩ = bs L4 by
     rw [HS3.out, HL4.out, HUN.out, lineL, if_neg h0, show (⟨#[32, 32, 117, 110, 108, 101, 115, 115, 32]⟩ : ByteArray) = bs [32, 32, 117, 110, 108, 101, 115, 115, 32] from rfl, show (⟨#[59, 10]⟩ : ByteArray) = bs [59, 10] from rfl, bs_app, bs_app, bs_app]
     congr 1; simp)
    clear h0
    go_wp2_with fail
    go_meet
    case rel => exact ⟨_, rfl, HF.out, Ext.refl _⟩
  case rest =>
  obtain ⟨S4, rfl, hS4, hx4⟩ := hcut
  have HX4 := Lib.hid (HX3.out.trans hx4)
  clear hx4 p0 p1 p2 p3 p4 p5 p6 p7 p8 p9 p10 p11 p12
  obtain ⟨p0, p1, p2, p3, p4, p5, p6, p7, p8, p9, p10, p11, p12⟩ := HQ.out wc HX4.out
  have HS4 := Lib.hid hS4
  have hS4s : S4.size = L4.length := by rw [hS4, bs_size]
  clear hS4
  go_upto_if 61 with (fail)
  go_cut [3] (fun s3 wx => ∃ S, s3 = .string S ∧ S = bs L5 ∧ Ext wc wx)
  case first =>
   generalize hv4 : (!de.toList.isEmpty) = v4
   cases v4
   ·have h0 : r.else_ = [] := emp_f HEL.out hv4
    clear hv4
    have HF := Lib.hid (show S4 = bs L5 by rw [HS4.out, HL5.out, h0, lineL, if_pos rfl, List.append_nil])
    clear h0
    go_wp2_with fail
    go_meet
    case rel => exact ⟨S4, rfl, HF.out, Ext.refl _⟩
   ·have h0 : r.else_ ≠ [] := emp_t HEL.out hv4
    clear hv4
    have q0 : ¬ 9223372036854775807 < S4.size + 7 := by omega
    have q1 : ¬ 9223372036854775807 < S4.size + 7 + de.size := by omega
    have q2 : ¬ 9223372036854775807 < S4.size + 7 + de.size + 2 := by omega
    have HF := Lib.hid (show S4 ++ ⟨#[32, 32, 101, 108, 115, 101, 32]⟩ ++ de ++ ⟨#[59, 10]⟩ = bs L5 by
     rw [HS4.out, HL5.out, HEL.out, lineL, if_neg h0, show (⟨#[32, 32, 101, 108, 115, 101, 32]⟩ : ByteArray) = bs [32, 32, 101, 108, 115, 101, 32] from rfl, show (⟨#[59, 10]⟩ : ByteArray) = bs [59, 10] from rfl, bs_app, bs_app, bs_app]
     congr 1; simp)
    clear h0
    go_wp2_with fail
    go_meet
    case rel => exact ⟨_, rfl, HF.out, Ext.refl _⟩
  case rest =>
  obtain ⟨S5, rfl, hS5, hx5⟩ := hcut
  have HX5 := Lib.hid (HX4.out.trans hx5)
  clear hx5
  have HS5 := Lib.hid hS5
  have hS5s : S5.size = L5.length := by rw [hS5, bs_size]
  have q0 : ¬ 9223372036854775807 < S5.size + 2 := by omega
  have HF := Lib.hid (show S5 ++ ⟨#[125, 10]⟩ = bs (printL (l.take (k + 1))) by
   rw [HFI.out, HS5.out, HL5.out, HL4.out, HL3.out, HL2.out, HL1.out, ruleL, HMM.out, show (⟨#[125, 10]⟩ : ByteArray) = bs [125, 10] from rfl, bs_app]
   congr 1; simp)
  clear hS5 p0 p1 p2 p3 p4 p5 p6 p7 p8 p9 p10 p11 p12
  go_wp2_with fail
  exact ⟨⟨k + 1, _, by omega, by simp, rfl, HF.out, HX1.out.trans HX5.out⟩, by simp only [toM]; omega⟩
end Go.Proofs.YtnpenepdechkjaaGreatDoor
