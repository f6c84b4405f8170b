/- The contract of the reference's Tokens. -/
import Derived.Test.YtbmcplnfamgpcaaDoorTok
import Derived.Test.YtbmcplnfamgpcaaDoorRt
namespace Go.Proofs.YtbmcplnfamgpcaaDoor
open Go Go.RowKit

theorem skip_idem : ∀ (cm : Bool) (s : List UInt8), skipB false (skipB cm s) = skipB cm s
  | _, [] => rfl
  | cm, c :: r => by
    rw [skipB]
    split
    · exact skip_idem false r
    · rename_i h10
      split
      · exact skip_idem true r
      · rename_i h35
        split
        · exact skip_idem cm r
        · rename_i hb
          rw [skipB, if_neg h10, if_neg h35, if_neg]
          intro h; apply hb
          rw [Bool.or_eq_true] at h ⊢
          rcases h with h | h
          · cases h
          · exact .inr h
theorem skip_fix {b : UInt8} {r : List UInt8} (h : skipB false (b :: r) = b :: r) : blk b = false ∧ b ≠ 35 := by
  have hlen : ∀ cm, skipB cm r ≠ b :: r := fun cm e => by
    have := skipB_len cm r
    rw [e, List.length_cons] at this; omega
  rw [skipB] at h
  split at h
  · exact absurd h (hlen _)
  · split at h
    · exact absurd h (hlen _)
    · rename_i h35
      split at h
      · exact absurd h (hlen _)
      · rename_i hb
        refine ⟨?_, h35⟩
        cases hk : blk b with
        | false => rfl
        | true => exact absurd (by rw [hk]; rfl) hb
theorem sk_drop (l : List UInt8) (a : Nat) (ha : a ≤ l.length) : l.drop (skN l a) = skipB false (l.drop a) ∧ a ≤ skN l a ∧ skN l a ≤ l.length := by
  have h1 := skipB_len false (l.drop a)
  have h2 := skipB_drop false (l.drop a)
  rw [List.length_drop] at h1 h2
  refine ⟨?_, by unfold skN; omega, by unfold skN; omega⟩
  rw [List.drop_drop] at h2
  rw [← h2]
  congr 1
  unfold skN; omega
theorem sk_lex (l : List UInt8) (a : Nat) (ha : a ≤ l.length) : lexW a (l.drop a) = lexW (skN l a) (l.drop (skN l a)) := by
  obtain ⟨h1, h2, h3⟩ := sk_drop l a ha
  apply lex_skip
  · rw [h1, skip_idem]
  · rw [List.length_drop, List.length_drop]; omega
def KRel (W : World) (l : List UInt8) (s5 s6 : Value) (w' : World) : Prop :=
  ∃ (a : Nat) (A : Option Addr) (c : Nat) (pre : List Tk), a ≤ l.length ∧ s6 = .int .i64 a ∧ s5 = .slice A pre.length c ∧ OL tcf 4 w' W.heap.size 36 s5 pre ∧ Ext W w' ∧ pre.length ≤ a ∧ lexW 0 l = LexR.putAll pre (lexW a (l.drop a)) ∧ skipB false (l.drop a) = l.drop a
set_option maxHeartbeats 4000000 in
set_option maxRecDepth 100000 in
theorem rtokens_any (s : ByteArray) (w : World) (hs : s.size ≤ 281474976710656) : Calls Tryd.prog 15 #[.string s] w (TokPost w (lexT s.data.toList)) := by
  by_cases hbig : 4000 < s.size
  · have hT : lexT s.data.toList = ⟨[], 4000, 2⟩ := by rw [lexT, if_pos (by rw [list_size]; exact hbig)]
    have HT := Lib.hid hT
    have hb' : (4000 : Int) < (s.size : Int) := by omega
    clear hT
    go_enter Tryd.func15, Tryd.ntmps15
    go_wp2
    refine bodyPost_ret (v := .tuple #[.slice none 0 0, .int .i64 4000, .int .i64 2]) (by simp [results, Tryd.results15, go_sem, *]) rfl ?_
    rw [HT.out]
    exact ⟨none, 0, rfl, SL.nil _, Ext.refl _, Nat.zero_le _⟩
  · have hT : lexT s.data.toList = lexW 0 s.data.toList := by rw [lexT, if_neg (by rw [list_size]; exact hbig)]
    have HT := Lib.hid hT
    have hb' : ¬ (4000 : Int) < (s.size : Int) := by omega
    have HS0 := Lib.hid (fun X => (rskip_any s 0 X (by omega) hs).mono (R' := fun e w' => e = .returned (.int .i64 (skN s.data.toList 0 : Nat)) ∧ X = w') (fun _ _ h => ⟨h.1, h.2.symm⟩))
    obtain ⟨d1, d2, d3⟩ := sk_drop s.data.toList 0 (by omega)
    have d4 := sk_lex s.data.toList 0 (by omega)
    rw [List.drop_zero] at d1 d4
    obtain ⟨p0, hp0⟩ : ∃ p, p = skN s.data.toList 0 := ⟨_, rfl⟩
    rw [← hp0] at HS0 d1 d2 d3 d4
    have HZ := Lib.hid (show lexW 0 s.data.toList = LexR.putAll [] (lexW p0 (s.data.toList.drop p0)) ∧ skipB false (s.data.toList.drop p0) = s.data.toList.drop p0 from ⟨by rw [putAll_nil]; exact d4, by rw [d1, skip_idem]⟩)
    clear hT d1 d2 d4 hp0
    rw [list_size] at d3
    go_enter Tryd.func15, Tryd.ntmps15
    go_wp2_with (first | (go_at_call 35; refine (HS0.out _).mono ?_; rintro e w1 ⟨rfl, rfl⟩))
    go_loopw [5, 6] (fun s5 s6 w' => KRel w s.data.toList s5 s6 w') (fun _ s6 _ => tokM s.size s6)
    case atStart => exact ⟨p0, none, 0, [], by rw [list_size]; exact d3, rfl, rfl, OL.nil _ _ _, Ext.refl _, by simp, HZ.out.1, HZ.out.2⟩
    case round =>
      obtain ⟨a, A, c, pre, ha, rfl, rfl, ho, hx, hpl, hlx, hsk⟩ := hrel
      have HO := Lib.hid ho
      have HX := Lib.hid hx
      have HLX := Lib.hid hlx
      have HSK := Lib.hid hsk
      rw [list_size] at ha
      clear ho hx hlx hsk
      by_cases hal : a < s.size
      · have hsz0 : 0 < (s.extract a s.size).size := by rw [ByteArray.size_extract]; omega
        have hl := get_list s a hal
        obtain ⟨b, hb⟩ : ∃ b : UInt8, b = s[a]'hal := ⟨_, rfl⟩
        rw [← hb] at hl
        have HLL := Lib.hid hl
        have hfx := skip_fix (b := b) (r := s.data.toList.drop (a + 1)) (by rw [← hl]; exact HSK.out)
        have el : (s.extract a s.size).data.toList = s.data.toList.drop a := by rw [extract_list]; apply List.take_of_length_le; rw [List.length_drop, list_size]; omega
        have HRD := Lib.hid (fun X => rtok_any (s.extract a s.size) X (by rw [ByteArray.size_extract]; omega) hsz0)
        rw [show tok1 (s.extract a s.size).data.toList = tok1 (b :: s.data.toList.drop (a + 1)) by rw [el, HLL.out]] at HRD
        clear hl hb hsz0
        cases ht : tok1 (b :: s.data.toList.drop (a + 1)) with
        | err e =>
          rw [ht] at HRD
          have HFIN := Lib.hid (tokens_err HLX.out HLL.out hfx.1 hfx.2 ht)
          have hne : (e == 0) = false := by simpa using tok1_err_ne ht
          clear HLX HLL hfx el ht HSK
          go_wp2_with (first | (go_at_call 36; refine (HRD.out _).mono ?_; rintro e' w2 ⟨rfl, hx2⟩))
          refine bodyPost_ret (v := .tuple #[.slice none 0 0, .int .i64 a, .int .i64 e]) (by simp [results, Tryd.results15, go_sem]) rfl ?_
          exact tok_post_err HT.out HFIN.out ((HX.out.trans hx2).alloc _)
        | ok k n v =>
          have hnr := (tok1_len ht)
          rw [List.length_cons, List.length_drop, list_size] at hnr
          have hn0 : 0 < n := hnr.1
          have hnz : a + n ≤ s.size := by omega
          have HRO := Lib.hid (fun X e W' (hp : TPost (tok1 (b :: s.data.toList.drop (a + 1))) (s.extract a s.size) X e W') => tpost_okk ht (el.trans HLL.out) hp)
          have hfin := tokens_ok HLX.out HLL.out hfx.1 hfx.2 ht
          have hsd := sk_drop s.data.toList (a + n) (by rw [list_size]; exact hnz)
          rw [sk_lex s.data.toList (a + n) (by rw [list_size]; exact hnz)] at hfin
          have HK := Lib.hid (fun X => (show Calls Tryd.prog 35 #[.string s, .int .i64 ((a : Int) + (n : Int))] X (fun e w' => e = .returned (.int .i64 (skN s.data.toList (a + n) : Nat)) ∧ w' = X) from rskip_any s (a + n) X hnz hs))
          obtain ⟨p, hp⟩ : ∃ p, p = skN s.data.toList (a + n) := ⟨_, rfl⟩
          rw [← hp] at hsd HK hfin
          obtain ⟨d1, d2, d3⟩ := hsd
          have HID := Lib.hid (show skipB false (s.data.toList.drop p) = s.data.toList.drop p by rw [d1, skip_idem])
          have HFIN := Lib.hid hfin
          rw [list_size] at d3
          clear HLX HLL hfx el ht hnr hfin d1 hp HSK
          go_upto_region 10 with (first | (go_at_call 36; refine (HRD.out _).mono ?_; intro e' w2 hp; obtain ⟨S, hSn, HS, rfl, hx2⟩ := HRO.out _ _ _ hp; clear hp))
          have hown := own_new (HO.out.ext hx2) (Nat.le_refl _)
          obtain ⟨A5, c5, w5, hrun, ho5, hb5, hk5⟩ := ap23_one (w2.alloc (.cells #[.int .i64 k, .int .i64 a, .string S, .int .i64 v] 36)) ((HO.out.ext hx2).ext ((Ext.refl _).alloc _)) k a v S (S.data.toList) rfl (w2.heap.size + 1) (by simp) (by omega) (by simp; exact Nat.le_trans HX.out.lt (Nat.le_trans hx2.lt (Nat.le_succ _)))
          have hk6 := hk5 w2.heap.size (by simp) hown
          have hc2 : w5.cell? ⟨w2.heap.size, 2, none⟩ = some (.string S) := by
            rw [cell_of_row w5 w2.heap.size _ _ 36 (0, 0) (hk6.trans (heap_alloc_new w2 _))]; rfl
          have HO5 := Lib.hid ho5
          have HB5 := Lib.hid hb5
          have HXX := Lib.hid hx2
          clear ho5 hb5 hk5 hk6 hown hx2
          have han : (a : Int) + (n : Int) ≤ 4000 := by omega
          go_wp2_with (first | (at_builtin; refine wpList_append_run (s := .tmp 31) (x := .tmp 33) hrun rfl rfl rfl rfl rfl ?_) | (go_at_call 35; refine (HK.out _).mono ?_; rintro e' w6 ⟨rfl, rfl⟩))
          refine ⟨⟨p, A5, c5, pre ++ [⟨k, a, S.data.toList, v⟩], by rw [list_size]; omega, rfl, by rw [List.length_append]; rfl, HO5.out, ?_, by rw [List.length_append, List.length_singleton]; omega, ?_, HID.out⟩, by simp only [tokM]; omega⟩
          · exact Below.trans ((HX.out.trans HXX.out).alloc _) HB5.out
          · rw [HS.out]; exact HFIN.out
      · obtain rfl : a = s.size := by omega
        have HFIN := Lib.hid (show lexW 0 s.data.toList = ⟨pre ++ [⟨0, (s.size : Nat), [], 0⟩], 0, 0⟩ by
          rw [HLX.out, drop_end s s.size (by omega), lex_end rfl, putAll_ok rfl]; rfl)
        clear HLX hal
        obtain ⟨A5, c5, w5, hrun, ho5, hb5, _⟩ := ap23_one wr HO.out 0 s.size 0 ⟨#[]⟩ [] rfl wr.heap.size rfl (by omega) HX.out.lt
        have HO5 := Lib.hid ho5
        have HB5 := Lib.hid hb5
        clear ho5 hb5
        have hni : ¬ ((s.size : Int) < (s.size : Int)) := by omega
        go_wp2_with (first | (at_builtin; refine wpList_append_run (s := .tmp 42) (x := .tmp 46) hrun rfl rfl rfl rfl rfl ?_))
        refine bodyPost_ret (v := .tuple #[.slice A5 (pre.length + 1) c5, .int .i64 0, .int .i64 0]) (by simp [results, Tryd.results15, go_sem]) rfl ?_
        obtain ⟨A9, c9, e9, hc9, hs9⟩ := OL.form tcf_len HO5.out
        injection e9 with e1 e2 e3
        subst e1 e3
        rw [HT.out, HFIN.out]
        rw [List.length_append] at hs9 hc9
        exact ⟨A5, c5, by rw [List.length_append]; rfl, by rw [List.length_append]; exact hs9, Below.trans HX.out HB5.out, by rw [List.length_append]; exact hc9⟩
end Go.Proofs.YtbmcplnfamgpcaaDoor
