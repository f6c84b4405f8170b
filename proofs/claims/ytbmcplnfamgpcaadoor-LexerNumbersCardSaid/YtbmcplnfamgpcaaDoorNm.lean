/- The contract of 'number'. -/
import Derived.Test.YtbmcplnfamgpcaaDoorSy
namespace Go.Proofs.YtbmcplnfamgpcaaDoor
open Go Go.RowKit

theorem dval_ge (l : List UInt8) : ∀ a, a ≤ dval a l := by
  induction l with
  | nil => intro a; exact Nat.le_refl _
  | cons c r ih => intro a; rw [dval_cons]; have := ih (10 * a + (c.toNat - 48)); omega
theorem parse_digits (l : List UInt8) : ∀ a, a < 18446744073709551616 → l.all dig = true →
    (dval a l < 18446744073709551616 → Lib.parseUint10 a l = .ok (dval a l)) ∧ (18446744073709551616 ≤ dval a l → Lib.parseUint10 a l = .range) := by
  induction l with
  | nil => intro a ha _; exact ⟨fun _ => rfl, fun h => by rw [dval_nil] at h; omega⟩
  | cons c r ih =>
    intro a ha hd
    rw [List.all_cons, Bool.and_eq_true] at hd
    have hc := dig_iff.1 hd.1
    have hg := dval_ge r (10 * a + (c.toNat - 48))
    rw [dval_cons, Lib.parseUint10, if_pos hc, show a * 10 = 10 * a by omega]
    constructor
    · intro h
      rw [if_neg (by omega), if_neg (by omega)]
      exact (ih _ (by omega) hd.2).1 h
    · intro h
      by_cases h1 : 1844674407370955162 ≤ a
      · rw [if_pos h1]
      · rw [if_neg h1]
        by_cases h2 : 18446744073709551616 ≤ 10 * a + (c.toNat - 48)
        · rw [if_pos h2]
        · rw [if_neg h2]; exact (ih _ (by omega) hd.2).2 h
theorem atoi_digits {l : List UInt8} (h0 : l ≠ []) (hd : l.all dig = true) :
    (dval 0 l < 9223372036854775808 → Lib.atoiAll l = .ok (dval 0 l : Nat)) ∧ (9223372036854775808 ≤ dval 0 l → Lib.atoiAll l = .range) := by
  cases l with
  | nil => exact absurd rfl h0
  | cons c r =>
    have hc : 48 ≤ c.toNat ∧ c.toNat ≤ 57 := by rw [List.all_cons, Bool.and_eq_true] at hd; exact dig_iff.1 hd.1
    have hp := parse_digits (c :: r) 0 (by omega) hd
    have e : Lib.parseMag (if c.toNat = 43 ∨ c.toNat = 45 then r else c :: r) = Lib.parseUint10 0 (c :: r) := by
      rw [if_neg (by omega), Lib.parseMag, if_neg (by simp)]
    constructor
    · intro h
      unfold Lib.atoiAll
      simp only [e, hp.1 (by omega)]
      rw [if_neg (by omega), if_neg (by omega), if_neg (by omega)]
    · intro h
      unfold Lib.atoiAll
      by_cases h2 : dval 0 (c :: r) < 18446744073709551616
      · simp only [e, hp.1 h2]
        rw [if_pos ⟨by omega, h⟩]
      · simp only [e, hp.2 (by omega)]
theorem take_twn (p : UInt8 → Bool) (l : List UInt8) : l.take (twn p l) = l.takeWhile p := by
  induction l with
  | nil => rfl
  | cons c r ih =>
    cases h : p c with
    | true => rw [twn_go h, List.takeWhile_cons, h, Nat.add_comm, List.take_succ_cons, ih]; rfl
    | false => rw [twn_stop h, List.takeWhile_cons, h]; rfl
theorem tw_all (p : UInt8 → Bool) (l : List UInt8) : (l.takeWhile p).all p = true := by
  induction l with
  | nil => rfl
  | cons c r ih =>
    cases h : p c with
    | true => rw [List.takeWhile_cons, h]; simp [h, ih]
    | false => rw [List.takeWhile_cons, h]; rfl
/-- The listed variable that number parsing may hand back, in every later world. -/
def EnvR (w : World) : Prop := ∃ tp p, ∀ W, Ext w W → W.var? Tryd.prog "strconv.ErrRange" = some #[.iface tp p]
theorem EnvR.ext {w w' : World} (h : EnvR w) (hx : Ext w w') : EnvR w' := h.imp fun _ h => h.imp fun _ h W hW => h W (hx.trans hW)
theorem atoi_ok_any (s : ByteArray) (v : Int) (X : World) (hs : s.size ≤ 281474976710656) (h : Lib.atoiAll s.data.toList = .ok v) :
    Calls Tryd.prog 48 #[.string s] X fun e X' => e = .returned (.tuple #[.int .i64 v, .nilIface]) ∧ Ext X X' := by
  refine (Tryd.strconv_Atoi_ok s (by omega) v h X).mono ?_
  rintro e X' ⟨rfl, h1 | ⟨t, h1⟩⟩
  · subst h1; exact ⟨rfl, Ext.refl _⟩
  · subst h1; exact ⟨rfl, Lib.bytesWorld_below X 5 t⟩
theorem atoi_bad_any (s : ByteArray) (X : World) (hs : s.size ≤ 281474976710656) (hE : EnvR X) (h : Lib.atoiAll s.data.toList = .range) :
    Calls Tryd.prog 48 #[.string s] X fun e X' => ∃ (v : Int) (N : Nat), e = .returned (.tuple #[.int .i64 v, .iface 92 (.pointer (some ⟨N, 0, none⟩))]) ∧ Ext X X' := by
  obtain ⟨tp, p, hv⟩ := hE
  refine (Tryd.strconv_Atoi_range_var s hs h tp p X (hv X (Ext.refl _))).mono ?_
  rintro e X' ⟨N, rfl, _, _, hb⟩
  exact ⟨_, N, rfl, hb⟩
theorem extract_get (s : ByteArray) (n : Nat) (h : 0 < (s.extract 0 n).size) : (s.extract 0 n)[0]'h = s[0]'(by rw [ByteArray.size_extract] at h; omega) := by
  simp [ByteArray.getElem_extract]
set_option maxHeartbeats 4000000 in
set_option maxRecDepth 100000 in
theorem num_any (s : ByteArray) (w : World) (hs : s.size ≤ 281474976710656) (h0 : 0 < s.size) (hd : dig s[0] = true) (hE : EnvR w) : Calls Tryd.prog 33 #[.string s] w (TPost (numT s.data.toList) s w) := by
  have hl := get_list s 0 h0
  rw [List.drop_zero] at hl
  have HF := Lib.hid (fun X => first32_any s X hs)
  have hz := twn_size dig s
  have hz1 : 1 ≤ twn dig s.data.toList := by rw [hl, twn_go hd]; omega
  have htk := take_twn dig s.data.toList
  have hall := tw_all dig s.data.toList
  obtain ⟨n, hn⟩ : ∃ n, n = twn dig s.data.toList := ⟨_, rfl⟩
  rw [← hn] at HF hz hz1 htk
  have HN := Lib.hid hn
  have HL := Lib.hid hl
  have HTK := Lib.hid htk
  have HAL := Lib.hid hall
  clear hn hl htk hall hd
  by_cases hA : 1 < n ∧ s[0] = 48
  · obtain ⟨h1, h2⟩ := hA
    have h1' : (1 : Int) < (n : Int) := by omega
    have HT := Lib.hid (show numT s.data.toList = .err 20 by rw [numT, ← HN.out, if_pos ⟨h1, by rw [HL.out, h2]; rfl⟩])
    have hq : ∀ h : 0 < (s.extract 0 n).size, ((((s.extract 0 n)[0]'h).toNat : Int) == 48) = true := fun h => by rw [extract_get, h2]; rfl
    clear HN HL HTK HAL h2
    go_enter Tryd.func33, Tryd.ntmps33
    go_wp2_with (first | (go_at_call 28; refine (HF.out _).mono ?_; rintro e w1 ⟨rfl, hx⟩; have q := (TBox.new w 0 0 0 ⟨#[]⟩ 36).ext hx; have hx0 := ((Ext.refl w).alloc _).trans hx; obtain ⟨q0, q1, q2, q3, q4, q5, q6, q7, q8⟩ := q))
    refine bodyPost_ret (v := .tuple #[.agg #[.int .i64 0, .int .i64 0, .string ⟨#[]⟩, .int .i64 0], .int .i64 20]) (by simp [results, Tryd.results33, go_sem, *]) rfl ?_
    exact tpost_err HT.out rfl (hx0.store4 (Nat.le_refl _) _ _ _ _)
  · by_cases h1 : 1 < n
    · have h1' : (1 : Int) < (n : Int) := by omega
      have h48 : s[0] ≠ 48 := fun e => hA ⟨h1, e⟩
      have hq : ∀ h : 0 < (s.extract 0 n).size, ((((s.extract 0 n)[0]'h).toNat : Int) == 48) = false := fun h => by
        rw [extract_get, beq_eq_false_iff_ne]; intro e; exact h48 (UInt8.toNat_inj.1 (by have : (48 : UInt8).toNat = 48 := rfl; omega))
      clear h48
      have hne : s.data.toList.takeWhile dig ≠ [] := by rw [← HTK.out, HL.out]; cases n with | zero => omega | succ n => simp
      have hat := atoi_digits hne HAL.out
      have het : (s.extract 0 n).data.toList = s.data.toList.takeWhile dig := by rw [extract_take, HTK.out]
      have hsz : (s.extract 0 n).size ≤ 281474976710656 := by rw [ByteArray.size_extract]; omega
      obtain ⟨v, hv⟩ : ∃ v, v = dval 0 (s.data.toList.takeWhile dig) := ⟨_, rfl⟩
      rw [← hv] at hat
      have hT0 : numT s.data.toList = if 2147483647 < v then .err 5 else .ok 2 n v := by
        rw [numT, ← HN.out, if_neg (by rw [HL.out, List.head?_cons]; simpa using hA), hv]
      have HT0 := Lib.hid hT0
      by_cases hb : v < 9223372036854775808
      · have HI := Lib.hid (fun X (_ : Ext w X) => atoi_ok_any (s.extract 0 n) v X hsz (by rw [het]; exact hat.1 hb))
        by_cases hm : 2147483647 < v
        · have hm' : (2147483647 : Int) < (v : Int) := by omega
          have HT := Lib.hid (show numT s.data.toList = .err 5 by rw [HT0.out, if_pos hm])
          clear hT0 HT0 het hat hne hv HN HL HTK HAL hA
          go_enter Tryd.func33, Tryd.ntmps33
          go_wp2_with (first | (go_at_call 28; refine (HF.out _).mono ?_; rintro e w1 ⟨rfl, hx⟩; have q := (TBox.new w 0 0 0 ⟨#[]⟩ 36).ext hx; have hx0 := ((Ext.refl w).alloc _).trans hx; obtain ⟨q0, q1, q2, q3, q4, q5, q6, q7, q8⟩ := q) | (go_at_call 48; refine (HI.out _ (((Ext.refl w).alloc _).trans hx)).mono ?_; rintro e w2 ⟨rfl, hx2⟩; have q' := ((TBox.new w 0 0 0 ⟨#[]⟩ 36).ext hx).ext hx2; have hx3 := (((Ext.refl w).alloc _).trans hx).trans hx2; obtain ⟨r0, r1, r2, r3, r4, r5, r6, r7, r8⟩ := q'))
          refine bodyPost_ret (v := .tuple #[.agg #[.int .i64 0, .int .i64 0, .string ⟨#[]⟩, .int .i64 0], .int .i64 5]) (by simp [results, Tryd.results33, go_sem, *]) rfl ?_
          exact tpost_err HT.out rfl (hx3.store4 (Nat.le_refl _) _ _ _ _)
        · have hm' : ¬ (2147483647 : Int) < (v : Int) := by omega
          have HT := Lib.hid (show numT s.data.toList = .ok 2 n v by rw [HT0.out, if_neg hm])
          clear hT0 HT0 het hat hne hv HN HL HTK HAL hA
          go_enter Tryd.func33, Tryd.ntmps33
          go_wp2_with (first | (go_at_call 28; refine (HF.out _).mono ?_; rintro e w1 ⟨rfl, hx⟩; have q := (TBox.new w 0 0 0 ⟨#[]⟩ 36).ext hx; have hx0 := ((Ext.refl w).alloc _).trans hx; obtain ⟨q0, q1, q2, q3, q4, q5, q6, q7, q8⟩ := q) | (go_at_call 48; refine (HI.out _ (((Ext.refl w).alloc _).trans hx)).mono ?_; rintro e w2 ⟨rfl, hx2⟩; have q' := ((TBox.new w 0 0 0 ⟨#[]⟩ 36).ext hx).ext hx2; have hx3 := (((Ext.refl w).alloc _).trans hx).trans hx2; obtain ⟨r0, r1, r2, r3, r4, r5, r6, r7, r8⟩ := q'))
          refine bodyPost_ret (v := .tuple #[.agg #[.int .i64 2, .int .i64 0, .string (s.extract 0 n), .int .i64 v], .int .i64 0]) (by simp [results, Tryd.results33, go_sem, *]) rfl ?_
          exact tpost_ok HT.out rfl rfl (extract_take _ _) (hx3.store4 (Nat.le_refl _) _ _ _ _)
      · have HI := Lib.hid (fun X (hX : Ext w X) => atoi_bad_any (s.extract 0 n) X hsz (hE.ext hX) (by rw [het]; exact hat.2 (by omega)))
        have HT := Lib.hid (show numT s.data.toList = .err 5 by rw [HT0.out, if_pos (by omega)])
        clear hT0 HT0 het hat hne hv HN HL HTK HAL hA hb
        go_enter Tryd.func33, Tryd.ntmps33
        go_wp2_with (first | (go_at_call 28; refine (HF.out _).mono ?_; rintro e w1 ⟨rfl, hx⟩; have q := (TBox.new w 0 0 0 ⟨#[]⟩ 36).ext hx; have hx0 := ((Ext.refl w).alloc _).trans hx; obtain ⟨q0, q1, q2, q3, q4, q5, q6, q7, q8⟩ := q) | (go_at_call 48; refine (HI.out _ (((Ext.refl w).alloc _).trans hx)).mono ?_; rintro e w2 ⟨v2, N, rfl, hx2⟩; have q' := ((TBox.new w 0 0 0 ⟨#[]⟩ 36).ext hx).ext hx2; have hx3 := (((Ext.refl w).alloc _).trans hx).trans hx2; obtain ⟨r0, r1, r2, r3, r4, r5, r6, r7, r8⟩ := q'))
        refine bodyPost_ret (v := .tuple #[.agg #[.int .i64 0, .int .i64 0, .string ⟨#[]⟩, .int .i64 0], .int .i64 5]) (by simp [results, Tryd.results33, go_sem, *]) rfl ?_
        exact tpost_err HT.out rfl (hx3.store4 (Nat.le_refl _) _ _ _ _)
    · obtain rfl : n = 1 := by omega
      have h1' : ¬ (1 : Int) < ((1 : Nat) : Int) := by decide
      have hne : s.data.toList.takeWhile dig ≠ [] := by rw [← HTK.out, HL.out]; simp
      have hat := atoi_digits hne HAL.out
      have het : (s.extract 0 1).data.toList = s.data.toList.takeWhile dig := by rw [extract_take, HTK.out]
      have hsz : (s.extract 0 1).size ≤ 281474976710656 := by rw [ByteArray.size_extract]; omega
      obtain ⟨v, hv⟩ : ∃ v, v = dval 0 (s.data.toList.takeWhile dig) := ⟨_, rfl⟩
      rw [← hv] at hat
      have hT0 : numT s.data.toList = if 2147483647 < v then .err 5 else .ok 2 1 v := by
        rw [numT, ← HN.out, if_neg (by rw [HL.out, List.head?_cons]; simp), hv]
      have HT0 := Lib.hid hT0
      by_cases hb : v < 9223372036854775808
      · have HI := Lib.hid (fun X (_ : Ext w X) => atoi_ok_any (s.extract 0 1) v X hsz (by rw [het]; exact hat.1 hb))
        by_cases hm : 2147483647 < v
        · have hm' : (2147483647 : Int) < (v : Int) := by omega
          have HT := Lib.hid (show numT s.data.toList = .err 5 by rw [HT0.out, if_pos hm])
          clear hT0 HT0 het hat hne hv HN HL HTK HAL hA
          go_enter Tryd.func33, Tryd.ntmps33
          go_wp2_with (first | (go_at_call 28; refine (HF.out _).mono ?_; rintro e w1 ⟨rfl, hx⟩; have q := (TBox.new w 0 0 0 ⟨#[]⟩ 36).ext hx; have hx0 := ((Ext.refl w).alloc _).trans hx; obtain ⟨q0, q1, q2, q3, q4, q5, q6, q7, q8⟩ := q) | (go_at_call 48; refine (HI.out _ (((Ext.refl w).alloc _).trans hx)).mono ?_; rintro e w2 ⟨rfl, hx2⟩; have q' := ((TBox.new w 0 0 0 ⟨#[]⟩ 36).ext hx).ext hx2; have hx3 := (((Ext.refl w).alloc _).trans hx).trans hx2; obtain ⟨r0, r1, r2, r3, r4, r5, r6, r7, r8⟩ := q'))
          refine bodyPost_ret (v := .tuple #[.agg #[.int .i64 0, .int .i64 0, .string ⟨#[]⟩, .int .i64 0], .int .i64 5]) (by simp [results, Tryd.results33, go_sem, *]) rfl ?_
          exact tpost_err HT.out rfl (hx3.store4 (Nat.le_refl _) _ _ _ _)
        · have hm' : ¬ (2147483647 : Int) < (v : Int) := by omega
          have HT := Lib.hid (show numT s.data.toList = .ok 2 1 v by rw [HT0.out, if_neg hm])
          clear hT0 HT0 het hat hne hv HN HL HTK HAL hA
          go_enter Tryd.func33, Tryd.ntmps33
          go_wp2_with (first | (go_at_call 28; refine (HF.out _).mono ?_; rintro e w1 ⟨rfl, hx⟩; have q := (TBox.new w 0 0 0 ⟨#[]⟩ 36).ext hx; have hx0 := ((Ext.refl w).alloc _).trans hx; obtain ⟨q0, q1, q2, q3, q4, q5, q6, q7, q8⟩ := q) | (go_at_call 48; refine (HI.out _ (((Ext.refl w).alloc _).trans hx)).mono ?_; rintro e w2 ⟨rfl, hx2⟩; have q' := ((TBox.new w 0 0 0 ⟨#[]⟩ 36).ext hx).ext hx2; have hx3 := (((Ext.refl w).alloc _).trans hx).trans hx2; obtain ⟨r0, r1, r2, r3, r4, r5, r6, r7, r8⟩ := q'))
          refine bodyPost_ret (v := .tuple #[.agg #[.int .i64 2, .int .i64 0, .string (s.extract 0 1), .int .i64 v], .int .i64 0]) (by simp [results, Tryd.results33, go_sem, *]) rfl ?_
          exact tpost_ok HT.out rfl rfl (extract_take _ _) (hx3.store4 (Nat.le_refl _) _ _ _ _)
      · have HI := Lib.hid (fun X (hX : Ext w X) => atoi_bad_any (s.extract 0 1) X hsz (hE.ext hX) (by rw [het]; exact hat.2 (by omega)))
        have HT := Lib.hid (show numT s.data.toList = .err 5 by rw [HT0.out, if_pos (by omega)])
        clear hT0 HT0 het hat hne hv HN HL HTK HAL hA hb
        go_enter Tryd.func33, Tryd.ntmps33
        go_wp2_with (first | (go_at_call 28; refine (HF.out _).mono ?_; rintro e w1 ⟨rfl, hx⟩; have q := (TBox.new w 0 0 0 ⟨#[]⟩ 36).ext hx; have hx0 := ((Ext.refl w).alloc _).trans hx; obtain ⟨q0, q1, q2, q3, q4, q5, q6, q7, q8⟩ := q) | (go_at_call 48; refine (HI.out _ (((Ext.refl w).alloc _).trans hx)).mono ?_; rintro e w2 ⟨v2, N, rfl, hx2⟩; have q' := ((TBox.new w 0 0 0 ⟨#[]⟩ 36).ext hx).ext hx2; have hx3 := (((Ext.refl w).alloc _).trans hx).trans hx2; obtain ⟨r0, r1, r2, r3, r4, r5, r6, r7, r8⟩ := q'))
        refine bodyPost_ret (v := .tuple #[.agg #[.int .i64 0, .int .i64 0, .string ⟨#[]⟩, .int .i64 0], .int .i64 5]) (by simp [results, Tryd.results33, go_sem, *]) rfl ?_
        exact tpost_err HT.out rfl (hx3.store4 (Nat.le_refl _) _ _ _ _)
end Go.Proofs.YtbmcplnfamgpcaaDoor
