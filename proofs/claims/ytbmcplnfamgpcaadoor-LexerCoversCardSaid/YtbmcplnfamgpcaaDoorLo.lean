/- The walks of 'idle' and of the law LexerCovers. -/
import Derived.Test.YtbmcplnfamgpcaaDoorLc
import Derived.Test.YtbmcplnfamgpcaaDoorPlain6
namespace Go.Proofs.YtbmcplnfamgpcaaDoor
open Go Go.RowKit

def IdRel (l : List UInt8) (s3 s4 : Value) : Prop := ∃ (cm : Bool) (i : Nat), i ≤ l.length ∧ s3 = .bool cm ∧ s4 = .int .i64 i ∧ idleP cm (l.drop i) = true
set_option maxHeartbeats 4000000 in
set_option maxRecDepth 100000 in
theorem idle_any (s : ByteArray) (w : World) (hs : s.size ≤ 281474976710656) (h : idleP false s.data.toList = true) : Calls Tryd.prog 22 #[.string s] w (BQ true w) := by
  have HB := Lib.hid (fun c X => rblank_any c X)
  have H0 := Lib.hid h
  clear h
  go_enter Tryd.func22, Tryd.ntmps22
  go_wp2
  go_loop [3, 4] (fun s3 s4 => IdRel s.data.toList s3 s4) (fun _ s4 => tokM' s.size s4)
  case atStart => exact ⟨false, 0, by omega, rfl, rfl, by rw [List.drop_zero]; exact H0.out⟩
  case round =>
    obtain ⟨cm, i, hi, rfl, rfl, hk⟩ := hrel
    rw [list_size] at hi
    by_cases hil : i < s.size
    · have hl := get_list s i hil
      obtain ⟨b, hb⟩ : ∃ b : UInt8, b = s[i]'hil := ⟨_, rfl⟩
      rw [← hb] at hl
      have hgt : ∀ h : i < s.size, s[i]'h = b := fun h => hb.symm
      rw [hl, idleP] at hk
      have HBB := Lib.hid (HB.out b)
      clear hl hb
      by_cases h35 : b.toNat = 35
      · have g35 : ((b.toNat : Int) == 35) = true := by rw [beq_iff_eq]; omega
        have hbe : b = 35 := UInt8.toNat_inj.1 h35
        rw [hbe] at hk
        have HF := Lib.hid (show idleP true (s.data.toList.drop (i + 1)) = true by simpa using hk)
        clear hk hbe h35
        go_wp2_with (first | (go_at_call 39; refine (HBB.out _).mono ?_; rintro e w1 ⟨rfl, rfl⟩))
        exact ⟨⟨true, i + 1, by rw [list_size]; omega, rfl, rfl, HF.out⟩, by simp only [tokM']; omega⟩
      · have g35 : ((b.toNat : Int) == 35) = false := by rw [beq_eq_false_iff_ne]; omega
        have n35 : decide (b = 35) = false := decide_eq_false fun h => h35 (by rw [h]; rfl)
        rw [n35, Bool.false_or] at hk
        by_cases h10 : b.toNat = 10
        · have g10 : ((b.toNat : Int) != 10) = false := by rw [bne_eq_false_iff_eq]; omega
          have hbe : b = 10 := UInt8.toNat_inj.1 h10
          have hbk : blk b = true := by rw [hbe]; decide
          rw [hbk] at HBB hk
          have HF := Lib.hid (show idleP false (s.data.toList.drop (i + 1)) = true by simpa [hbe] using hk)
          clear hk hbe h35 h10 n35 hbk
          cases cm with
          | true =>
            go_wp2_with (first | (go_at_call 39; refine (HBB.out _).mono ?_; rintro e w1 ⟨rfl, rfl⟩))
            exact ⟨⟨false, i + 1, by rw [list_size]; omega, rfl, rfl, HF.out⟩, by simp only [tokM']; omega⟩
          | false =>
            go_wp2_with (first | (go_at_call 39; refine (HBB.out _).mono ?_; rintro e w1 ⟨rfl, rfl⟩))
            exact ⟨⟨false, i + 1, by rw [list_size]; omega, rfl, rfl, HF.out⟩, by simp only [tokM']; omega⟩
        · have g10 : ((b.toNat : Int) != 10) = true := by rw [bne_iff_ne]; omega
          have n10 : decide (b = 10) = false := decide_eq_false fun h => h10 (by rw [h]; rfl)
          rw [n10] at hk
          cases cm with
          | true =>
            have HF := Lib.hid (show idleP true (s.data.toList.drop (i + 1)) = true by simpa using hk)
            clear hk h35 h10 n35 n10
            go_wp2_with (first | (go_at_call 39; refine (HBB.out _).mono ?_; rintro e w1 ⟨rfl, rfl⟩))
            exact ⟨⟨true, i + 1, by rw [list_size]; omega, rfl, rfl, HF.out⟩, by simp only [tokM']; omega⟩
          | false =>
            cases hbk : blk b with
            | true =>
              rw [hbk] at HBB hk
              have HF := Lib.hid (show idleP false (s.data.toList.drop (i + 1)) = true by simpa using hk)
              clear hk h35 h10 n35 n10 hbk
              go_wp2_with (first | (go_at_call 39; refine (HBB.out _).mono ?_; rintro e w1 ⟨rfl, rfl⟩))
              exact ⟨⟨false, i + 1, by rw [list_size]; omega, rfl, rfl, HF.out⟩, by simp only [tokM']; omega⟩
            | false =>
              rw [hbk] at hk
              simp at hk
    · obtain rfl : i = s.size := by omega
      have hni : ¬ ((s.size : Int) < (s.size : Int)) := by omega
      clear hk
      go_wp2
      go_ret
      exact ⟨rfl, rfl⟩
/-- The next token, behind a place. -/
theorem cov_step {X : List UInt8} {p : Nat} (hp : p ≤ X.length) {t : Tk} {l : List Tk} (he : (lexW p (X.drop p)).e = 0) (hl : (lexW p (X.drop p)).l = t :: l) :
    ∃ q : Nat, t.at_ = q ∧ p ≤ q ∧ q + t.tx.length ≤ X.length ∧ (X.drop q).take t.tx.length = t.tx ∧ idleP false ((X.drop p).take (q - p)) = true ∧
      ((l = [] ∧ t.kd = 0 ∧ t.tx = [] ∧ q = X.length) ∨
       (l ≠ [] ∧ t.kd ≠ 0 ∧ t.tx ≠ [] ∧ (lexW (q + t.tx.length) (X.drop (q + t.tx.length))).e = 0 ∧ (lexW (q + t.tx.length) (X.drop (q + t.tx.length))).l = l)) := by
  have hsl := skipB_len false (X.drop p)
  have hid := idle_skip false (X.drop p)
  have hdl : (X.drop p).length = X.length - p := List.length_drop
  rcases lex_cases p (X.drop p) with ⟨h0, h1⟩ | ⟨e, h0, _, hne, h1⟩ | ⟨kd, n, v, h0, ht, hn, hnl, h1⟩
  · rw [h1] at hl
    injection hl with hl1 hl2
    subst hl1
    refine ⟨p + (X.drop p).length, rfl, by omega, by simp [endT]; omega, by simp [endT], ?_, .inl ⟨hl2.symm, rfl, rfl, by omega⟩⟩
    rw [h0] at hid
    rw [show p + (X.drop p).length - p = (X.drop p).length - ([] : List UInt8).length by simp]
    exact hid
  · rw [h1] at he; exact absurd he hne
  · rw [h1, put_e] at he
    rw [h1, put_ok he] at hl
    injection hl with hl1 hl2
    subst hl1
    have hdr := skipB_drop false (X.drop p)
    have htl : ((skipB false (X.drop p)).take n).length = n := by rw [List.length_take]; omega
    obtain ⟨pre, hpre⟩ : ∃ pre, pre = (X.drop p).length - (skipB false (X.drop p)).length := ⟨_, rfl⟩
    rw [← hpre] at hdr hid he hl2 ⊢
    rw [List.drop_drop] at hdr
    have hlast : (skipB false (X.drop p)).drop n = X.drop (p + pre + n) := by rw [← hdr, List.drop_drop]
    rw [hlast] at he hl2
    refine ⟨p + pre, rfl, by omega, by rw [htl]; omega, by rw [htl, hdr], by rw [show p + pre - p = pre by omega]; exact hid, .inr ⟨?_, ?_, ?_, ?_, ?_⟩⟩
    · obtain ⟨_, ts, g, _⟩ := lex_toks _ (X.drop (p + pre + n)) (Nat.le_refl _) (p + pre + n) he
      rw [← hl2, g]; simp
    · have := tok1_kind ht; show kd ≠ 0; omega
    · exact (tok1_ok ht 0).1
    · rw [htl]; exact he
    · rw [htl]; exact hl2
def CvRel (X : List UInt8) (L : List Tk) (s7 s8 : Value) : Prop := ∃ i p : Nat, i ≤ L.length ∧ p ≤ X.length ∧ s8 = .int .i64 i ∧ s7 = .int .i64 p ∧
  (i < L.length → (lexW p (X.drop p)).e = 0 ∧ (lexW p (X.drop p)).l = L.drop i) ∧ (i = L.length → p = X.length)
set_option maxHeartbeats 8000000 in
set_option maxRecDepth 100000 in
theorem lawCovers_any (s : ByteArray) (w : World) (hs : s.size ≤ 281474976710656) (hE : EnvT w) : Calls Tryd.prog 7 #[.string s] w (BoolPost true w) := by
  have HSH := Lib.hid (fun X => short_any s 4000 X hs (by omega))
  have HLC := Lib.hid (lexk w hE)
  have HLV := Lib.hid (fun Y (hY : Ext w Y) => lives_any Y (hE.ext hY))
  clear hE
  go_enter Tryd.func7, Tryd.ntmps7
  go_upto_region 3 with (first | (go_at_call 13; refine (HSH.out _).mono ?_; rintro e w1 ⟨X, hX, HX, rfl, rfl⟩; obtain ⟨L, o, x, hr, hL⟩ := lexW_parts X.data.toList (by rw [list_size]; omega); have H1 := Lib.hid (HLC.out X (by omega) L o x hr); have HR := Lib.hid hr; clear hr) | (go_at_call 14; refine (H1.out _ (Ext.refl _)).mono ?_; rintro e w1 ⟨A1, c1, rfl, HL1, hx1⟩))
  by_cases hx0 : x = 0
  · subst hx0
    have hpos : 0 < L.length := by
      obtain ⟨_, ts, g, _⟩ := lex_toks _ X.data.toList (Nat.le_refl _) 0 (by rw [HR.out])
      rw [HR.out] at g
      have g2 : L = ts ++ [endT (0 + X.data.toList.length)] := g
      rw [g2]; simp
    have hst : CvRel X.data.toList L (.int .i64 0) (.int .i64 0) := ⟨0, 0, by omega, by omega, rfl, rfl, fun _ => by rw [List.drop_zero, List.drop_zero, HR.out]; exact ⟨rfl, rfl⟩, fun h => absurd h (by omega)⟩
    have HST := Lib.hid hst
    clear hst
    go_upto_region 7 with (fail)
    go_loopw [7, 8] (fun s7 s8 w' => CvRel X.data.toList L s7 s8 ∧ Ext w1 w') (fun _ s8 _ => tokM' (L.length + 1) s8)
    case atStart => exact ⟨HST.out, Ext.refl _⟩
    case round =>
      obtain ⟨⟨i, p, hi, hp, rfl, rfl, hlt, heq⟩, hxr⟩ := hrel
      have HXR := Lib.hid hxr
      have HEQ := Lib.hid heq
      have HLT := Lib.hid hlt
      clear hxr heq hlt
      rw [list_size] at hp
      by_cases hin : i < L.length
      · obtain ⟨h1, h2⟩ := HLT.out hin
        obtain ⟨b1, o1, t, rfl, hb1, ht, p0, p1, p2, p3⟩ := (HL1.out.ext HXR.out).tok (k := i) hin
        have hdc : L.drop i = t :: L.drop (i + 1) := by
          rw [List.drop_eq_getElem_cons hin]
          rw [List.getElem?_eq_getElem hin] at ht
          rw [Option.some.inj ht]
        rw [hdc] at h2
        obtain ⟨q, hq, hpq, hql, htx, hid, hcase⟩ := cov_step (by rw [list_size]; exact hp) h1 h2
        obtain ⟨kd, at_, tx, nm⟩ := t
        simp only at hq hql htx hcase p0 p1 p2 p3
        subst hq
        obtain ⟨T, hT⟩ : ∃ T : ByteArray, T = ⟨tx.toArray⟩ := ⟨_, rfl⟩
        have hTl : T.data.toList = tx := by rw [hT]
        have hTs : T.size = tx.length := by rw [← list_size, hTl]
        rw [← hT] at p2
        rw [list_size] at hql
        have hex : X.extract q (q + T.size) = T := by
          apply WideShapes.bytes_inj
          rw [extract_list, hTl, show q + T.size - q = tx.length by omega]; exact htx
        have HI := Lib.hid (fun W => idle_any (X.extract p q) W (by rw [ByteArray.size_extract]; omega) (by rw [extract_list]; exact hid))
        have hqs : q + T.size ≤ X.size := by omega
        have g1 : decide (q < p) = false := decide_eq_false (by omega)
        have g2 : decide (X.size < q) = false := decide_eq_false (by omega)
        have g3 : decide ((X.size : Int) - (q : Int) < (T.size : Int)) = false := decide_eq_false (by omega)
        have g4 : (T.toList != T.toList) = false := by simp
        have w1 : IntKind.i64.wrap ((X.size : Int) - (q : Int)) = (X.size : Int) - (q : Int) := IntWalk.i64_in _ (by omega)
        have w2 : IntKind.i64.wrap ((q : Int) + (T.size : Int)) = (q : Int) + (T.size : Int) := IntWalk.i64_in _ (by omega)
        have hsl1 : ∀ W, (Instr.slice 9 (.string X) (some (.int .i64 (q : Int))) (some (.int .i64 ((q : Int) + (T.size : Int)))) none).run Tryd.prog W = .ok (.string T) W := fun W => by
          rw [run_slice_string W 9 X .i64 .i64 (q : Int) ((q : Int) + (T.size : Int)) Tryd.underlying9 (by omega) (by omega) (by omega), show ((q : Int) + (T.size : Int)).toNat = q + T.size by omega, Int.toNat_natCast, hex]
        have hsl2 : ∀ W, (Instr.slice 9 (.string X) (some (.int .i64 (p : Int))) (some (.int .i64 (q : Int))) none).run Tryd.prog W = .ok (.string (X.extract p q)) W := fun W => by
          rw [run_slice_string W 9 X .i64 .i64 (p : Int) (q : Int) Tryd.underlying9 (by omega) (by omega) (by omega), Int.toNat_natCast, Int.toNat_natCast]
        have hi5 : (i : Int) ≤ 5000 := by omega
        have hiL : (i : Int) < (L.length : Int) := by omega
        rcases hcase with ⟨hl0, hk0, hx0, hq0⟩ | ⟨hl0, hk0, hx0, h3, h4⟩
        · have hiL2 : i + 1 = L.length := by
            have := congrArg List.length hl0
            rw [List.length_drop] at this; simp at this; omega
          have k0 : (kd == 0) = true := by rw [beq_iff_eq]; exact hk0
          have k1 : ((i : Int) == (L.length : Int) - 1) = true := by rw [beq_iff_eq]; omega
          have k2 : T.toList = [] := by rw [ByteArray.toList_eq, hTl, hx0]
          have HFIN := Lib.hid (show CvRel X.data.toList L (.int .i64 ((q : Int) + (T.size : Int))) (.int .i64 ((i : Int) + 1)) by
            have hT0 : T.size = 0 := by rw [hTs, hx0]; rfl
            refine ⟨i + 1, q, by omega, by rw [list_size]; omega, rfl, by rw [hT0]; simp, fun h => absurd h (by omega), fun _ => by rw [hq0]⟩)
          clear h1 h2 hdc ht htx hid hT hTl hTs hl0 hk0 hx0 hq0 hiL2 hpq HLT HEQ HST
          go_upto_region 10 with (fail)
          go_quiet (first | (go_at_call 22; refine Calls.quiet_of_same ((HI.out _).mono fun _ _ h => h)))
          go_wp2
          exact ⟨⟨HFIN.out, (HXR.out.alloc _).drewN _⟩, by simp only [tokM']; omega⟩
        · have hiL2 : i + 1 < L.length := by
            have := List.length_pos_iff.2 hl0
            rw [List.length_drop] at this; omega
          have k0 : (kd == 0) = false := by rw [beq_eq_false_iff_ne]; exact hk0
          have k1 : ((i : Int) == (L.length : Int) - 1) = false := by rw [beq_eq_false_iff_ne]; omega
          have k2 : (T.toList == []) = false := by rw [beq_eq_false_iff_ne, ByteArray.toList_eq, hTl]; exact hx0
          have k3 : T.toList.isEmpty = false := by
            rw [ByteArray.toList_eq, hTl]
            cases tx with
            | nil => exact absurd rfl hx0
            | cons => rfl
          have HFIN := Lib.hid (show CvRel X.data.toList L (.int .i64 ((q : Int) + (T.size : Int))) (.int .i64 ((i : Int) + 1)) from
            ⟨i + 1, q + T.size, by omega, by rw [list_size]; exact hqs, rfl, by rw [Int.natCast_add], fun _ => by rw [hTs]; exact ⟨h3, h4⟩, fun h => absurd h (by omega)⟩)
          clear h1 h2 hdc ht htx hid hT hTl hTs hl0 hk0 hx0 h3 h4 hiL2 hpq HLT HEQ HST
          go_upto_region 10 with (fail)
          go_quiet (first | (go_at_call 22; refine Calls.quiet_of_same ((HI.out _).mono fun _ _ h => h)))
          go_wp2
          exact ⟨⟨HFIN.out, (HXR.out.alloc _).drewN _⟩, by simp only [tokM']; omega⟩
      · obtain rfl : i = L.length := by omega
        have hpx : p = X.size := by have := HEQ.out rfl; rw [list_size] at this; exact this
        subst hpx
        have hni : ¬ ((L.length : Int) < (L.length : Int)) := by omega
        have hpos' : (0 : Int) < (L.length : Int) := by omega
        have HLV2 := Lib.hid (HLV.out wr (hx1.trans HXR.out))
        go_wp2_with (first | (go_at_call 17; refine HLV2.out.mono ?_; rintro e w4 ⟨rfl, hx⟩; have hx4 := (hx1.trans HXR.out).trans hx; clear hx))
        go_ret
        exact ⟨rfl, hx4⟩
  · have hx' : (x != 0) = true := by rw [bne_iff_ne]; exact hx0
    clear hx0
    go_wp2_with (first | (go_at_call 17; refine (HLV.out _ hx1).mono ?_; rintro e w4 ⟨rfl, hx⟩; have hx4 := hx1.trans hx; clear hx))
    go_ret
    exact ⟨rfl, hx4⟩
end Go.Proofs.YtbmcplnfamgpcaaDoor
