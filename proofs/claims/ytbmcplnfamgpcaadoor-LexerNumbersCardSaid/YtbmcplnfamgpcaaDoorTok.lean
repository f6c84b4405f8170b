/- The contract of lexer.Tokens. -/
import Derived.Test.YtbmcplnfamgpcaaDoorCr
import Derived.Lib.Hide
import Derived.WalkMore
namespace Go.Proofs.YtbmcplnfamgpcaaDoor
open Go Go.RowKit

def TRel (W : World) (l : List UInt8) (s5 s6 : Value) (w' : World) : Prop :=
  ∃ (a : Nat) (A : Option Addr) (c : Nat) (pre : List Tk), a ≤ l.length ∧ s6 = .int .i64 a ∧ s5 = .slice A pre.length c ∧ OL tcf 4 w' W.heap.size 36 s5 pre ∧ Ext W w' ∧ pre.length ≤ a ∧ lexW 0 l = LexR.putAll pre (lexW a (l.drop a))
theorem lowI_low (c : UInt8) : lowI (c.toNat : Int) = low c := by
  unfold lowI low
  congr 1 <;> (rw [decide_eq_decide]; omega)
theorem tpost_okk {R : ByteArray} {W W' : World} {e : Ending} {k v : Int} {n : Nat} {l : List UInt8} (ht : tok1 l = .ok k n v) (hl : R.data.toList = l) (h : TPost (tok1 l) R W e W') :
    ∃ S : ByteArray, S.size = n ∧ Hid (S.data.toList = l.take n) ∧ e = .returned (.tuple #[.agg #[.int .i64 k, .int .i64 0, .string S, .int .i64 v], .int .i64 0]) ∧ Ext W W' := by
  have hn := (tok1_len ht).2
  rw [ht] at h
  obtain ⟨⟨S, hS, rfl⟩, hx⟩ := h
  rw [hl] at hS
  refine ⟨S, ?_, Lib.hid hS, rfl, hx⟩
  rw [← list_size, hS, List.length_take]; omega
theorem own_new {W : World} {base : Nat} {e : TypeId} {A : Option Addr} {n c b : Nat} {l : List Tk} (h : OL tcf 4 W base e (.slice A n c) l) (hb : W.heap.size ≤ b) : ∀ a, Value.slice A n c ≠ .slice (some ⟨b, 0, none⟩) l.length a := by
  intro a he
  injection he with e1 _ _
  subst e1
  obtain ⟨A', c', e', _, h2⟩ := own_form h
  injection e' with e1 _ _
  subst e1
  rcases h2 with ⟨h2, _⟩ | ⟨g, h2, _, h3, _⟩
  · cases h2
  · injection h2 with h2; injection h2 with h2; omega
theorem tok_post_err {W W' : World} {l : List UInt8} {a : Nat} {e : Int} (h : lexT l = lexW 0 l) (h2 : lexW 0 l = ⟨[], (a : Nat), e⟩) (hx : Ext W W') :
    TokPost W (lexT l) (.returned (.tuple #[.slice none 0 0, .int .i64 a, .int .i64 e])) W' := by
  rw [h, h2]; exact ⟨none, 0, rfl, SL.nil _, hx, Nat.zero_le _⟩
theorem tokens_err {l : List UInt8} {a : Nat} {pre : List Tk} {b : UInt8} {r : List UInt8} {e : Int} (h : lexW 0 l = LexR.putAll pre (lexW a (l.drop a))) (hl : l.drop a = b :: r) (hb : blk b = false) (h35 : b ≠ 35) (ht : tok1 (b :: r) = .err e) :
    lexW 0 l = ⟨[], (a : Nat), e⟩ := by
  rw [h, hl, lex_tok_err hb h35 ht, putAll_err (tok1_err_ne ht)]
theorem tokens_ok {l : List UInt8} {a n : Nat} {pre : List Tk} {b : UInt8} {r : List UInt8} {k v : Int} (h : lexW 0 l = LexR.putAll pre (lexW a (l.drop a))) (hl : l.drop a = b :: r) (hb : blk b = false) (h35 : b ≠ 35) (ht : tok1 (b :: r) = .ok k n v) :
    lexW 0 l = LexR.putAll (pre ++ [⟨k, (a : Nat), (b :: r).take n, v⟩]) (lexW (a + n) (l.drop (a + n))) := by
  rw [h, hl, lex_tok_ok hb h35 ht, LexR.putAll, LexR.putAll, List.foldr_append, List.foldr_cons, List.foldr_nil, ← hl, List.drop_drop]
def tokM (n : Nat) (v : Value) : Nat := match v with | .int _ z => n - z.toNat | _ => 0
set_option maxHeartbeats 4000000 in
set_option maxRecDepth 100000 in
theorem tokens_any (s : ByteArray) (w : World) (hs : s.size ≤ 281474976710656) (hR : EnvR w) (hL : EnvL w) : Calls Tryd.prog 14 #[.string s] w (TokPost w (lexT s.data.toList)) := by
  by_cases hbig : 4000 < s.size
  · have hT : lexT s.data.toList = ⟨[], 4000, 2⟩ := by rw [lexT, if_pos (by rw [list_size]; exact hbig)]
    have HT := Lib.hid hT
    have hb' : (4000 : Int) < (s.size : Int) := by omega
    clear hT
    go_enter Tryd.func14, Tryd.ntmps14
    go_wp2
    go_step3
    go_wp2
    rw [Exit.noGoto_ret]
    refine bodyPost_ret (v := .tuple #[.slice none 0 0, .int .i64 4000, .int .i64 2]) (by simp [results, Tryd.results14, go_sem, *]) rfl ?_
    rw [HT.out]
    exact ⟨none, 0, rfl, SL.nil _, Ext.refl _, Nat.zero_le _⟩
  · have hT : lexT s.data.toList = lexW 0 s.data.toList := by rw [lexT, if_neg (by rw [list_size]; exact hbig)]
    have HT := Lib.hid hT
    have hb' : ¬ (4000 : Int) < (s.size : Int) := by omega
    have HR := Lib.hid hR
    have HL := Lib.hid hL
    clear hT hR hL
    go_enter Tryd.func14, Tryd.ntmps14
    go_wp2
    go_step3
    go_wp2
    go_step3
    go_wp2
    go_loopw [5, 6] (fun s5 s6 w' => TRel w s.data.toList s5 s6 w') (fun _ s6 _ => tokM s.size s6)
    case atStart => exact ⟨0, none, 0, [], by omega, rfl, rfl, OL.nil _ _ _, Ext.refl _, by simp, by rw [putAll_nil, List.drop_zero]⟩
    case round =>
      obtain ⟨a, A, c, pre, ha, rfl, rfl, ho, hx, hpl, hlx⟩ := hrel
      have HO := Lib.hid ho
      have HX := Lib.hid hx
      have HLX := Lib.hid hlx
      rw [list_size] at ha
      clear ho hx hlx
      by_cases hal : a < s.size
      · have hsz0 : 0 < (s.extract a s.size).size := by rw [ByteArray.size_extract]; omega
        have hl := get_list s a hal
        obtain ⟨b, hb⟩ : ∃ b : UInt8, b = s[a]'hal := ⟨_, rfl⟩
        rw [← hb] at hl
        have hgt : ∀ h : 0 < (s.extract a s.size).size, (s.extract a s.size)[0]'h = b := fun h => by rw [hb]; simp [ByteArray.getElem_extract]
        have hwr : RowKit.wrap32 (b.toNat : Int) = (b.toNat : Int) := by unfold RowKit.wrap32; (have := b.toNat_lt; omega)
        have HC := Lib.hid (fun X => crune_any b X)
        have HLL := Lib.hid hl
        clear hl hb
        cases hbk : blk b with
        | true =>
          rw [hbk] at HC
          have FIN := Lib.hid (show lexW 0 s.data.toList = LexR.putAll pre (lexW (a + 1) (s.data.toList.drop (a + 1))) by rw [HLX.out, HLL.out, lex_blank hbk])
          clear hbk HLX HLL
          have hin : s.data.toList.length = s.size := list_size s
          clear hin
          go_wp2_with (first | (go_at_call 27; refine (HC.out _).mono ?_; rintro e w1 ⟨rfl, hx1⟩))
          refine ⟨⟨a + 1, A, c, pre, by rw [list_size]; omega, by simp, rfl, HO.out.ext hx1, HX.out.trans hx1, by omega, FIN.out⟩, by simp [tokM]; omega⟩
        | false =>
          rw [hbk] at HC
          by_cases h35 : b = 35
          · have HF := Lib.hid (fun X => first29_any (s.extract a s.size) X (by rw [ByteArray.size_extract]; omega))
            have el : (s.extract a s.size).data.toList = s.data.toList.drop a := by rw [extract_list]; apply List.take_of_length_le; rw [List.length_drop, list_size]; omega
            have hle := twn_size nlB (s.extract a s.size)
            rw [el] at HF hle
            rw [ByteArray.size_extract] at hle
            have hge : 1 ≤ twn nlB (s.data.toList.drop a) := by rw [HLL.out, twn_go (by rw [h35]; decide)]; omega
            obtain ⟨n, hn⟩ : ∃ n, n = twn nlB (s.data.toList.drop a) := ⟨_, rfl⟩
            have FIN := Lib.hid (show lexW 0 s.data.toList = LexR.putAll pre (lexW (a + n) (s.data.toList.drop (a + n))) by
              rw [HLX.out, hn, ← List.drop_drop, HLL.out, lex_comment h35])
            rw [← hn] at HF hle hge
            have h35' : ((b.toNat : Int) == 35) = true := by rw [h35]; rfl
            clear hbk HLX HLL hn el h35
            go_wp2_with (first | (go_at_call 27; refine (HC.out _).mono ?_; rintro e w1 ⟨rfl, hx1⟩) | (go_at_call 28; refine (HF.out _).mono ?_; rintro e w2 ⟨rfl, hx2⟩))
            refine ⟨⟨a + n, A, c, pre, by rw [list_size]; omega, by simp, rfl, (HO.out.ext hx1).ext hx2, (HX.out.trans hx1).trans hx2, by omega, FIN.out⟩, by simp [tokM]; omega⟩
          · have h35' : ((b.toNat : Int) == 35) = false := by
              rw [beq_eq_false_iff_ne]; intro e; exact h35 (UInt8.toNat_inj.1 (by have : (35 : UInt8).toNat = 35 := rfl; omega))
            have el : (s.extract a s.size).data.toList = s.data.toList.drop a := by rw [extract_list]; apply List.take_of_length_le; rw [List.length_drop, list_size]; omega
            have HER := Lib.hid (fun e (h : tok1 (b :: s.data.toList.drop (a + 1)) = .err e) => tokens_err HLX.out HLL.out hbk h35 h)
            have HOK := Lib.hid (fun k n v (h : tok1 (b :: s.data.toList.drop (a + 1)) = .ok k n v) => tokens_ok HLX.out HLL.out hbk h35 h)
            have HLE := Lib.hid (fun X => letter_any (b.toNat : Int) X)
            rw [show lowI (b.toNat : Int) = low b from lowI_low b] at HLE
            cases hlo : low b with
            | true =>
              rw [hlo] at HLE
              have HRD := Lib.hid (fun X => word_any (s.extract a s.size) X (by rw [ByteArray.size_extract]; omega))
              rw [show wordT (s.extract a s.size).data.toList = tok1 (b :: s.data.toList.drop (a + 1)) by rw [el, HLL.out, tok1_word hlo]] at HRD
              cases ht : tok1 (b :: s.data.toList.drop (a + 1)) with
              | err e =>
                rw [ht] at HRD
                have HFIN := Lib.hid (HER.out e ht)
                have hne : (e == 0) = false := by simpa using tok1_err_ne ht
                clear hbk HLX HLL h35 hlo el HER HOK ht
                go_wp2_with (first | (go_at_call 27; refine (HC.out _).mono ?_; rintro e w1 ⟨rfl, hx1⟩) | (go_at_call 30; refine (HLE.out _).mono ?_; rintro e w2 ⟨rfl, rfl⟩) | (go_at_call 31; refine (HRD.out _).mono ?_; rintro e' w2 ⟨rfl, hx2⟩))
                rw [Exit.noGoto_ret]
                refine bodyPost_ret (v := .tuple #[.slice none 0 0, .int .i64 a, .int .i64 e]) (by simp [results, Tryd.results14, go_sem]) rfl ?_
                exact tok_post_err HT.out HFIN.out (((HX.out.trans hx1).trans hx2).alloc _)
              | ok k n v =>
                have hnr := (tok1_len ht)
                rw [List.length_cons, List.length_drop, list_size] at hnr
                have hn0 : 0 < n := hnr.1
                have hnz : a + n ≤ s.size := by omega
                have HRO := Lib.hid (fun X e W' (hp : TPost (tok1 (b :: s.data.toList.drop (a + 1))) (s.extract a s.size) X e W') => tpost_okk ht (el.trans HLL.out) hp)
                have HFIN := Lib.hid (HOK.out k n v ht)
                clear hbk HLX HLL h35 hlo el HER HOK ht hnr
                go_upto_region 23 with (first | (go_at_call 27; refine (HC.out _).mono ?_; rintro e w1 ⟨rfl, hx1⟩) | (go_at_call 30; refine (HLE.out _).mono ?_; rintro e w2 ⟨rfl, rfl⟩) | (go_at_call 31; refine (HRD.out _).mono ?_; intro e' w2 hp; obtain ⟨S, hSn, HS, rfl, hx2⟩ := HRO.out _ _ _ hp; clear hp))
                have hxx := hx1.trans hx2
                have hown := own_new (HO.out.ext hxx) (Nat.le_refl _)
                obtain ⟨A5, c5, w5, hrun, ho5, hb5, hk5⟩ := ap23_one (w2.alloc (.cells #[.int .i64 k, .int .i64 a, .string S, .int .i64 v] 36)) ((HO.out.ext hxx).ext ((Ext.refl _).alloc _)) k a v S (S.data.toList) rfl (w2.heap.size + 1) (by simp) (by omega) (by simp; exact Nat.le_trans HX.out.lt (Nat.le_trans hxx.lt (Nat.le_succ _)))
                have hk6 := hk5 w2.heap.size (by simp) hown
                have hc2 : w5.cell? ⟨w2.heap.size, 2, none⟩ = some (.string S) := by
                  rw [cell_of_row w5 w2.heap.size _ _ 36 (0, 0) (hk6.trans (heap_alloc_new w2 _))]; rfl
                have HO5 := Lib.hid ho5
                have HB5 := Lib.hid hb5
                have HXX := Lib.hid hxx
                clear ho5 hb5 hk5 hk6 hown hx1 hx2 hxx
                have han : (a : Int) + (n : Int) ≤ 4000 := by omega
                go_wp2_with (first | (at_builtin; refine wpList_append_run (s := .tmp 58) (x := .tmp 60) hrun rfl rfl rfl rfl rfl ?_))
                refine ⟨⟨a + n, A5, c5, pre ++ [⟨k, a, S.data.toList, v⟩], by rw [list_size]; omega, by simp, by rw [List.length_append]; rfl, HO5.out, ?_, by rw [List.length_append, List.length_singleton]; omega, ?_⟩, by simp [tokM]; omega⟩
                · exact Below.trans ((HX.out.trans HXX.out).alloc _) HB5.out
                · rw [HS.out]; exact HFIN.out
            | false =>
              rw [hlo] at HLE
              have HDI := Lib.hid (fun X => digit_any (b.toNat : Int) X)
              rw [show digI (b.toNat : Int) = dig b from digI_dig b] at HDI
              cases hdi : dig b with
              | true =>
                rw [hdi] at HDI
                have HRD := Lib.hid (fun X (hX : Ext w X) => num_any (s.extract a s.size) X (by rw [ByteArray.size_extract]; omega) hsz0 (by rw [hgt hsz0]; exact hdi) (HR.out.ext hX))
                rw [show numT (s.extract a s.size).data.toList = tok1 (b :: s.data.toList.drop (a + 1)) by rw [el, HLL.out, tok1_num hlo hdi]] at HRD
                cases ht : tok1 (b :: s.data.toList.drop (a + 1)) with
                | err e =>
                  rw [ht] at HRD
                  have HFIN := Lib.hid (HER.out e ht)
                  have hne : (e == 0) = false := by simpa using tok1_err_ne ht
                  clear hbk HLX HLL h35 hlo el HER HOK ht hdi
                  go_wp2_with (first | (go_at_call 27; refine (HC.out _).mono ?_; rintro e w1 ⟨rfl, hx1⟩) | (go_at_call 30; refine (HLE.out _).mono ?_; rintro e w2 ⟨rfl, rfl⟩) | (go_at_call 32; refine (HDI.out _).mono ?_; rintro e w2 ⟨rfl, rfl⟩) | (go_at_call 33; refine (HRD.out _ ?_).mono ?_; exact HX.out.trans hx1; rintro e' w2 ⟨rfl, hx2⟩))
                  rw [Exit.noGoto_ret]
                  refine bodyPost_ret (v := .tuple #[.slice none 0 0, .int .i64 a, .int .i64 e]) (by simp [results, Tryd.results14, go_sem]) rfl ?_
                  exact tok_post_err HT.out HFIN.out (((HX.out.trans hx1).trans hx2).alloc _)
                | ok k n v =>
                  have hnr := (tok1_len ht)
                  rw [List.length_cons, List.length_drop, list_size] at hnr
                  have hn0 : 0 < n := hnr.1
                  have hnz : a + n ≤ s.size := by omega
                  have HRO := Lib.hid (fun X e W' (hp : TPost (tok1 (b :: s.data.toList.drop (a + 1))) (s.extract a s.size) X e W') => tpost_okk ht (el.trans HLL.out) hp)
                  have HFIN := Lib.hid (HOK.out k n v ht)
                  clear hbk HLX HLL h35 hlo el HER HOK ht hnr hdi
                  go_upto_region 23 with (first | (go_at_call 27; refine (HC.out _).mono ?_; rintro e w1 ⟨rfl, hx1⟩) | (go_at_call 30; refine (HLE.out _).mono ?_; rintro e w2 ⟨rfl, rfl⟩) | (go_at_call 32; refine (HDI.out _).mono ?_; rintro e w2 ⟨rfl, rfl⟩) | (go_at_call 33; refine (HRD.out _ ?_).mono ?_; exact HX.out.trans hx1; intro e' w2 hp; obtain ⟨S, hSn, HS, rfl, hx2⟩ := HRO.out _ _ _ hp; clear hp))
                  have hxx := hx1.trans hx2
                  have hown := own_new (HO.out.ext hxx) (Nat.le_refl _)
                  obtain ⟨A5, c5, w5, hrun, ho5, hb5, hk5⟩ := ap23_one (w2.alloc (.cells #[.int .i64 k, .int .i64 a, .string S, .int .i64 v] 36)) ((HO.out.ext hxx).ext ((Ext.refl _).alloc _)) k a v S (S.data.toList) rfl (w2.heap.size + 1) (by simp) (by omega) (by simp; exact Nat.le_trans HX.out.lt (Nat.le_trans hxx.lt (Nat.le_succ _)))
                  have hk6 := hk5 w2.heap.size (by simp) hown
                  have hc2 : w5.cell? ⟨w2.heap.size, 2, none⟩ = some (.string S) := by
                    rw [cell_of_row w5 w2.heap.size _ _ 36 (0, 0) (hk6.trans (heap_alloc_new w2 _))]; rfl
                  have HO5 := Lib.hid ho5
                  have HB5 := Lib.hid hb5
                  have HXX := Lib.hid hxx
                  clear ho5 hb5 hk5 hk6 hown hx1 hx2 hxx
                  have han : (a : Int) + (n : Int) ≤ 4000 := by omega
                  go_wp2_with (first | (at_builtin; refine wpList_append_run (s := .tmp 58) (x := .tmp 60) hrun rfl rfl rfl rfl rfl ?_))
                  refine ⟨⟨a + n, A5, c5, pre ++ [⟨k, a, S.data.toList, v⟩], by rw [list_size]; omega, by simp, by rw [List.length_append]; rfl, HO5.out, ?_, by rw [List.length_append, List.length_singleton]; omega, ?_⟩, by simp [tokM]; omega⟩
                  · exact Below.trans ((HX.out.trans HXX.out).alloc _) HB5.out
                  · rw [HS.out]; exact HFIN.out
              | false =>
                rw [hdi] at HDI
                by_cases h64 : b = 64
                · have h64' : ((b.toNat : Int) == 64) = true := by rw [h64]; rfl
                  have HRD := Lib.hid (fun X (hX : Ext w X) => lday_any (s.extract a s.size) X (by rw [el, HLL.out, h64]; rfl) (by rw [ByteArray.size_extract]; omega) (HL.out.ext hX))
                  rw [show dayT (s.extract a s.size).data.toList = tok1 (b :: s.data.toList.drop (a + 1)) by rw [el, HLL.out, tok1_day hlo hdi h64]] at HRD
                  cases ht : tok1 (b :: s.data.toList.drop (a + 1)) with
                  | err e =>
                    rw [ht] at HRD
                    have HFIN := Lib.hid (HER.out e ht)
                    have hne : (e == 0) = false := by simpa using tok1_err_ne ht
                    clear hbk HLX HLL h35 hlo el HER HOK ht hdi h64
                    go_wp2_with (first | (go_at_call 27; refine (HC.out _).mono ?_; rintro e w1 ⟨rfl, hx1⟩) | (go_at_call 30; refine (HLE.out _).mono ?_; rintro e w2 ⟨rfl, rfl⟩) | (go_at_call 32; refine (HDI.out _).mono ?_; rintro e w2 ⟨rfl, rfl⟩) | (go_at_call 34; refine (HRD.out _ ?_).mono ?_; exact HX.out.trans hx1; rintro e' w2 ⟨rfl, hx2⟩))
                    rw [Exit.noGoto_ret]
                    refine bodyPost_ret (v := .tuple #[.slice none 0 0, .int .i64 a, .int .i64 e]) (by simp [results, Tryd.results14, go_sem]) rfl ?_
                    exact tok_post_err HT.out HFIN.out (((HX.out.trans hx1).trans hx2).alloc _)
                  | ok k n v =>
                    have hnr := (tok1_len ht)
                    rw [List.length_cons, List.length_drop, list_size] at hnr
                    have hn0 : 0 < n := hnr.1
                    have hnz : a + n ≤ s.size := by omega
                    have HRO := Lib.hid (fun X e W' (hp : TPost (tok1 (b :: s.data.toList.drop (a + 1))) (s.extract a s.size) X e W') => tpost_okk ht (el.trans HLL.out) hp)
                    have HFIN := Lib.hid (HOK.out k n v ht)
                    clear hbk HLX HLL h35 hlo el HER HOK ht hnr hdi h64
                    go_upto_region 23 with (first | (go_at_call 27; refine (HC.out _).mono ?_; rintro e w1 ⟨rfl, hx1⟩) | (go_at_call 30; refine (HLE.out _).mono ?_; rintro e w2 ⟨rfl, rfl⟩) | (go_at_call 32; refine (HDI.out _).mono ?_; rintro e w2 ⟨rfl, rfl⟩) | (go_at_call 34; refine (HRD.out _ ?_).mono ?_; exact HX.out.trans hx1; intro e' w2 hp; obtain ⟨S, hSn, HS, rfl, hx2⟩ := HRO.out _ _ _ hp; clear hp))
                    have hxx := hx1.trans hx2
                    have hown := own_new (HO.out.ext hxx) (Nat.le_refl _)
                    obtain ⟨A5, c5, w5, hrun, ho5, hb5, hk5⟩ := ap23_one (w2.alloc (.cells #[.int .i64 k, .int .i64 a, .string S, .int .i64 v] 36)) ((HO.out.ext hxx).ext ((Ext.refl _).alloc _)) k a v S (S.data.toList) rfl (w2.heap.size + 1) (by simp) (by omega) (by simp; exact Nat.le_trans HX.out.lt (Nat.le_trans hxx.lt (Nat.le_succ _)))
                    have hk6 := hk5 w2.heap.size (by simp) hown
                    have hc2 : w5.cell? ⟨w2.heap.size, 2, none⟩ = some (.string S) := by
                      rw [cell_of_row w5 w2.heap.size _ _ 36 (0, 0) (hk6.trans (heap_alloc_new w2 _))]; rfl
                    have HO5 := Lib.hid ho5
                    have HB5 := Lib.hid hb5
                    have HXX := Lib.hid hxx
                    clear ho5 hb5 hk5 hk6 hown hx1 hx2 hxx
                    have han : (a : Int) + (n : Int) ≤ 4000 := by omega
                    go_wp2_with (first | (at_builtin; refine wpList_append_run (s := .tmp 58) (x := .tmp 60) hrun rfl rfl rfl rfl rfl ?_))
                    refine ⟨⟨a + n, A5, c5, pre ++ [⟨k, a, S.data.toList, v⟩], by rw [list_size]; omega, by simp, by rw [List.length_append]; rfl, HO5.out, ?_, by rw [List.length_append, List.length_singleton]; omega, ?_⟩, by simp [tokM]; omega⟩
                    · exact Below.trans ((HX.out.trans HXX.out).alloc _) HB5.out
                    · rw [HS.out]; exact HFIN.out
                · have h64' : ((b.toNat : Int) == 64) = false := by
                    rw [beq_eq_false_iff_ne]; intro e; exact h64 (UInt8.toNat_inj.1 (by have : (64 : UInt8).toNat = 64 := rfl; omega))
                  have HRD := Lib.hid (fun X => sym_any (s.extract a s.size) X (by rw [ByteArray.size_extract]; omega) hsz0)
                  rw [show symT (s.extract a s.size).data.toList = tok1 (b :: s.data.toList.drop (a + 1)) by rw [el, HLL.out, tok1_sym hlo hdi h64]] at HRD
                  cases ht : tok1 (b :: s.data.toList.drop (a + 1)) with
                  | err e =>
                    rw [ht] at HRD
                    have HFIN := Lib.hid (HER.out e ht)
                    have hne : (e == 0) = false := by simpa using tok1_err_ne ht
                    clear hbk HLX HLL h35 hlo el HER HOK ht hdi h64
                    go_wp2_with (first | (go_at_call 27; refine (HC.out _).mono ?_; rintro e w1 ⟨rfl, hx1⟩) | (go_at_call 30; refine (HLE.out _).mono ?_; rintro e w2 ⟨rfl, rfl⟩) | (go_at_call 32; refine (HDI.out _).mono ?_; rintro e w2 ⟨rfl, rfl⟩) | (go_at_call 26; refine (HRD.out _).mono ?_; rintro e' w2 ⟨rfl, hx2⟩))
                    rw [Exit.noGoto_ret]
                    refine bodyPost_ret (v := .tuple #[.slice none 0 0, .int .i64 a, .int .i64 e]) (by simp [results, Tryd.results14, go_sem]) rfl ?_
                    exact tok_post_err HT.out HFIN.out (((HX.out.trans hx1).trans hx2).alloc _)
                  | ok k n v =>
                    have hnr := (tok1_len ht)
                    rw [List.length_cons, List.length_drop, list_size] at hnr
                    have hn0 : 0 < n := hnr.1
                    have hnz : a + n ≤ s.size := by omega
                    have HRO := Lib.hid (fun X e W' (hp : TPost (tok1 (b :: s.data.toList.drop (a + 1))) (s.extract a s.size) X e W') => tpost_okk ht (el.trans HLL.out) hp)
                    have HFIN := Lib.hid (HOK.out k n v ht)
                    clear hbk HLX HLL h35 hlo el HER HOK ht hnr hdi h64
                    go_upto_region 23 with (first | (go_at_call 27; refine (HC.out _).mono ?_; rintro e w1 ⟨rfl, hx1⟩) | (go_at_call 30; refine (HLE.out _).mono ?_; rintro e w2 ⟨rfl, rfl⟩) | (go_at_call 32; refine (HDI.out _).mono ?_; rintro e w2 ⟨rfl, rfl⟩) | (go_at_call 26; refine (HRD.out _).mono ?_; intro e' w2 hp; obtain ⟨S, hSn, HS, rfl, hx2⟩ := HRO.out _ _ _ hp; clear hp))
                    have hxx := hx1.trans hx2
                    have hown := own_new (HO.out.ext hxx) (Nat.le_refl _)
                    obtain ⟨A5, c5, w5, hrun, ho5, hb5, hk5⟩ := ap23_one (w2.alloc (.cells #[.int .i64 k, .int .i64 a, .string S, .int .i64 v] 36)) ((HO.out.ext hxx).ext ((Ext.refl _).alloc _)) k a v S (S.data.toList) rfl (w2.heap.size + 1) (by simp) (by omega) (by simp; exact Nat.le_trans HX.out.lt (Nat.le_trans hxx.lt (Nat.le_succ _)))
                    have hk6 := hk5 w2.heap.size (by simp) hown
                    have hc2 : w5.cell? ⟨w2.heap.size, 2, none⟩ = some (.string S) := by
                      rw [cell_of_row w5 w2.heap.size _ _ 36 (0, 0) (hk6.trans (heap_alloc_new w2 _))]; rfl
                    have HO5 := Lib.hid ho5
                    have HB5 := Lib.hid hb5
                    have HXX := Lib.hid hxx
                    clear ho5 hb5 hk5 hk6 hown hx1 hx2 hxx
                    have han : (a : Int) + (n : Int) ≤ 4000 := by omega
                    go_wp2_with (first | (at_builtin; refine wpList_append_run (s := .tmp 58) (x := .tmp 60) hrun rfl rfl rfl rfl rfl ?_))
                    refine ⟨⟨a + n, A5, c5, pre ++ [⟨k, a, S.data.toList, v⟩], by rw [list_size]; omega, by simp, by rw [List.length_append]; rfl, HO5.out, ?_, by rw [List.length_append, List.length_singleton]; omega, ?_⟩, by simp [tokM]; omega⟩
                    · exact Below.trans ((HX.out.trans HXX.out).alloc _) HB5.out
                    · rw [HS.out]; exact HFIN.out
      · obtain rfl : a = s.size := by omega
        have HFIN := Lib.hid (show lexW 0 s.data.toList = ⟨pre ++ [⟨0, (s.size : Nat), [], 0⟩], 0, 0⟩ by
          rw [HLX.out, drop_end s s.size (by omega), lex_end rfl, putAll_ok rfl]; rfl)
        clear HLX hal
        obtain ⟨A5, c5, w5, hrun, ho5, hb5, _⟩ := ap23_one wr HO.out 0 s.size 0 ⟨#[]⟩ [] rfl wr.heap.size rfl (by omega) HX.out.lt
        have HO5 := Lib.hid ho5
        have HB5 := Lib.hid hb5
        clear ho5 hb5
        have hni : ¬ ((s.size : Int) < (s.size : Int)) := by omega
        go_wp2_with (first | (at_builtin; refine wpList_append_run (s := .tmp 67) (x := .tmp 70) hrun rfl rfl rfl rfl rfl ?_))
        refine bodyPost_ret (v := .tuple #[.slice A5 (pre.length + 1) c5, .int .i64 0, .int .i64 0]) (by simp [results, Tryd.results14, go_sem]) rfl ?_
        obtain ⟨A9, c9, e9, hc9, hs9⟩ := OL.form tcf_len HO5.out
        injection e9 with e1 e2 e3
        subst e1 e3
        rw [HT.out, HFIN.out]
        rw [List.length_append] at hs9 hc9
        exact ⟨A5, c5, by rw [List.length_append]; rfl, by rw [List.length_append]; exact hs9, Below.trans HX.out HB5.out, by rw [List.length_append]; exact hc9⟩
end Go.Proofs.YtbmcplnfamgpcaaDoor
