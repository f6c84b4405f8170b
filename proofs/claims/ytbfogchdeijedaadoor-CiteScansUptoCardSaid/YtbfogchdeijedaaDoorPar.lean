/- The walk of the law CiteParses. -/
import Derived.Test.YtbfogchdeijedaaDoorRp
import Derived.Test.YtbfogchdeijedaaDoorRound
import Derived.Test.YtbfogchdeijedaaDoorRTxt
import Derived.Deep.DeepCutAuto
import Derived.Deep.CutBlock
namespace Go.Proofs.YtbfogchdeijedaaDoor
open Go Go.RowKit

def StrRel (W : World) (s13 : Value) (wx : World) : Prop := ∃ T : ByteArray, s13 = .string T ∧ T.size ≤ 4000 ∧ Ext W wx
theorem conv_one (W : World) (c : Int) (h0 : 0 ≤ c) (h1 : c ≤ 255) : (convert 31 9 (.slice (some ⟨W.heap.size, 0, none⟩) 1 1)).run Tryd.prog (W.alloc (.cells #[.int .u8 c] 5)).drew = .ok (.string ⟨#[UInt8.ofNat c.toNat]⟩) (W.alloc (.cells #[.int .u8 c] 5)).drew := by
  have hu : ((UInt8.ofNat c.toNat).toNat : Int) = c := by rw [UInt8.toNat_ofNat']; omega
  exact run_convert_bytes_back (P := Tryd.prog) (W.alloc (.cells #[.int .u8 c] 5)).drew 31 9 5 ⟨W.heap.size, 0, none⟩ 1 [UInt8.ofNat c.toNat] Tryd.underlying31 Tryd.underlying5 Tryd.underlying9 (fun j hj => by
    obtain rfl : j = 0 := by simp at hj; exact hj
    simp only [List.getElem_cons_zero]
    rw [hu]
    go_simp)
theorem text_small (n : Int) (S : ByteArray) (hS : S = ⟨(textP (citOf n)).toArray⟩) : S.size ≤ 1000 := by
  obtain ⟨br, nu, su, li, hcit, hbr, hnu1, hnu2, hsu, hli1, hli2⟩ := citOf_nat n
  have hok : citB ⟨br, nu, su, li⟩ = true := hcit ▸ citOf_ok n
  have htx : textP ⟨br, nu, su, li⟩ = Lib.decDigits br ++ (47 :: (Lib.decDigits nu ++ lets su ++ (47 :: Lib.decDigits li))) := by
    unfold textP; rw [if_pos hok]; simp only [Int.toNat_natCast]
  rw [hcit, htx] at hS
  have h1 := (mid_get (Lib.decDigits br) (Lib.decDigits nu ++ lets su) (Lib.decDigits li) S hS).1
  have hll := lab_len nu su (by omega) hsu
  have hld := dec_len br (by omega)
  have hld2 := dec_len li (by omega)
  have e1 : (⟨(Lib.decDigits br).toArray⟩ : ByteArray).size = (Lib.decDigits br).length := rfl
  have e2 : (⟨(Lib.decDigits li).toArray⟩ : ByteArray).size = (Lib.decDigits li).length := rfl
  have e3 : (⟨(Lib.decDigits nu ++ lets su).toArray⟩ : ByteArray).size = (Lib.decDigits nu ++ lets su).length := rfl
  omega
theorem extract_le (s : ByteArray) (a b : Nat) : (s.extract a b).size ≤ s.size := by rw [ByteArray.size_extract]; omega
def ParRel (w9 : World) (s15 : Value) (w' : World) : Prop := ∃ i : Nat, i ≤ 3 ∧ s15 = .int .i64 i ∧ Ext w9 w'
set_option maxHeartbeats 4000000 in
set_option maxRecDepth 100000 in
theorem parses_any (raw : ByteArray) (n at_ how c : Int) (w : World) (hE : Env w) (hr : raw.size ≤ 4000000) (hn : -9223372036854775808 ≤ n ∧ n ≤ 9223372036854775807) (hat : -9223372036854775808 ≤ at_ ∧ at_ ≤ 9223372036854775807)
    (hhow : -9223372036854775808 ≤ how ∧ how ≤ 9223372036854775807) (hc : 0 ≤ c ∧ c ≤ 255) :
    Calls Tryd.prog 4 #[.string raw, .int .i64 n, .int .i64 at_, .int .i64 how, .int .u8 c] w (BoolPost true w) := by
  have HE := Lib.hid (fun X (hX : Ext w X) => hE.ext hX)
  obtain ⟨dc, hdc⟩ : ∃ d, citOf n = d := ⟨_, rfl⟩
  obtain ⟨br, nu, su, li⟩ := dc
  have HD := Lib.hid (fun X => (show Calls Tryd.prog 7 #[.int .i64 n] X (fun e X' => e = .returned (.agg #[.int .i64 br, .int .i64 nu, .int .i64 su, .int .i64 li]) ∧ Ext X X') from by
    have := cite_any n X hn.1 hn.2; unfold CitePost at this; rw [hdc] at this; exact this))
  obtain ⟨S, hS⟩ : ∃ S : ByteArray, S = ⟨(textP ⟨br, nu, su, li⟩).toArray⟩ := ⟨_, rfl⟩
  have hSs : S.size ≤ 1000 := text_small n S (by rw [hS, hdc])
  have HT := Lib.hid (fun X => (show Calls Tryd.prog 10 #[.agg #[.int .i64 br, .int .i64 nu, .int .i64 su, .int .i64 li]] X (fun e X' => e = .returned (.string S) ∧ Ext X X') from hS ▸ rtext_any ⟨br, nu, su, li⟩ X))
  obtain ⟨k, hk⟩ : ∃ k : Nat, arnd at_ ((S.size : Int) + 1) = k := by
    have := arnd_in at_ ((S.size : Int) + 1) (by omega)
    exact ⟨(arnd at_ ((S.size : Int) + 1)).toNat, by omega⟩
  have hk2 : k ≤ S.size := by have := arnd_in at_ ((S.size : Int) + 1) (by omega); omega
  have HK := Lib.hid (fun X => (show Calls Tryd.prog 8 #[.int .i64 at_, .int .i64 ((S.size : Int) + 1)] X (fun e X' => e = .returned (.int .i64 k) ∧ X = X') from hk ▸ around_fn at_ ((S.size : Int) + 1) X hat.1 hat.2 (by omega) (by omega)))
  obtain ⟨j, hj⟩ : ∃ j : Nat, arnd how 3 = j := by
    have := arnd_in how 3 (by omega)
    exact ⟨(arnd how 3).toNat, by omega⟩
  have hj2 : j < 3 := by have := arnd_in how 3 (by omega); omega
  have HJ := Lib.hid (fun X => (show Calls Tryd.prog 8 #[.int .i64 how, .int .i64 3] X (fun e X' => e = .returned (.int .i64 j) ∧ X = X') from hj ▸ around_fn how 3 X hhow.1 hhow.2 (by omega) (by omega)))
  clear hE hdc hS hk hj hn hat hhow
  have hkI : (k : Int) ≤ (S.size : Int) := by omega
  have hsI : (S.size : Int) ≤ 1000 := by omega
  go_enter Tryd.func4, Tryd.ntmps4
  go_upto_region 3 with (first | (go_at_call 7; refine (HD.out _).mono ?_; rintro e w1 ⟨rfl, hx1⟩) | (go_at_call 10; refine (HT.out _).mono ?_; rintro e w2 ⟨rfl, hx⟩; have hx2 := hx1.trans hx; clear hx) | (go_at_call 8; refine (HK.out _).mono ?_; rintro e w3 ⟨rfl, rfl⟩))
  go_cut [13] (fun s13 wx => StrRel w2 s13 wx)
  case first =>
    have hw1 : IntKind.i64.wrap ((k : Int) + 1) = (k : Int) + 1 := IntWalk.i64_in _ (by omega)
    go_region
    go_wp2_with fail
    go_meet
    case rel =>
      exact ⟨_, rfl, by rw [ByteArray.size_append]; have h1 := extract_le S 0 k; have h2 := extract_le S (min ((k : Int) + 1) (S.size : Int)).toNat S.size; omega, (Ext.refl _).drew⟩
  case rest =>
    obtain ⟨T, rfl, hT, hx⟩ := hcut
    go_upto_block 0 with (first | (go_at_call 8; refine (HJ.out _).mono ?_; rintro e w3 ⟨rfl, rfl⟩))
    have HX := Lib.hid (hx2.trans hx)
    clear hx hx2 hx1
    go_cut [13] (fun s13 wy => StrRel wc s13 wy)
    case first =>
      have hw1 : IntKind.i64.wrap ((k : Int) + 1) = (k : Int) + 1 := IntWalk.i64_in _ (by omega)
      have hcw : 0 ≤ c := hc.1
      have hcw2 : c ≤ 255 := hc.2
      have hcv := conv_one wc c hc.1 hc.2
      obtain rfl | rfl | rfl : j = 0 ∨ j = 1 ∨ j = 2 := by omega
      · go_wp2_with fail
        go_region
        go_wp2_with fail
        go_meet
        case rel =>
          refine ⟨_, rfl, ?_, ((Ext.refl _).alloc _).drew⟩
          rw [ByteArray.size_append, ByteArray.size_append]
          have h1 := extract_le S 0 k
          have h2 := extract_le S k S.size
          have h3 : (⟨#[UInt8.ofNat c.toNat]⟩ : ByteArray).size = 1 := rfl
          omega
      · go_wp2_with fail
        go_region
        go_wp2_with fail
        go_meet
        case rel =>
          refine ⟨_, rfl, ?_, ((Ext.refl _).alloc _).drew⟩
          rw [ByteArray.size_append, ByteArray.size_append]
          have h1 := extract_le S 0 k
          have h2 := extract_le S (min ((k : Int) + 1) (S.size : Int)).toNat S.size
          have h3 : (⟨#[UInt8.ofNat c.toNat]⟩ : ByteArray).size = 1 := rfl
          omega
      · go_wp2_with fail
        go_meet
        case rel => exact ⟨T, rfl, hT, Ext.refl _⟩
    case rest =>
      obtain ⟨T2, rfl, hT2, hx⟩ := hcut
      have HX2 := Lib.hid (HX.out.trans hx)
      clear hx
      go_wp2_with fail
      have hsl := SL.new (cf := bcf) bcf_len wc [raw, S, T2] #[.string raw, .string S, .string T2] rfl 9
      have HSL := Lib.hid hsl
      have HX9 := Lib.hid (HX2.out.alloc (.cells #[.string raw, .string S, .string T2] 9))
      have HSZ := Lib.hid (show ∀ b ∈ [raw, S, T2], b.size ≤ 4000000 from fun b hb => by
        simp only [List.mem_cons, List.not_mem_nil, or_false] at hb
        rcases hb with rfl | rfl | rfl <;> omega)
      clear hsl
      generalize wc.alloc (.cells #[.string raw, .string S, .string T2] 9) = w9 at *
      generalize wc.heap.size = g9 at *
      go_loopw [15] (fun s15 w' => ParRel w9 s15 w') (fun s15 _ => toMs 3 s15)
      case atStart => exact ⟨0, by omega, rfl, Ext.refl _⟩
      case round =>
        obtain ⟨i, hi, rfl, hxr⟩ := hrel
        have HXR := Lib.hid hxr
        by_cases h3 : i < 3
        · obtain ⟨g, off, b, eA, hg, hb, hbm, hbc⟩ := SL.at (HSL.out.ext hxr) (k := i) (by simpa using h3)
          injection eA with eA; injection eA with eA1 eA2; subst eA1 eA2
          have hbs := HSZ.out b hbm
          have k0 := hbc 0 (.string b) rfl
          simp only [Nat.mul_one, Nat.add_zero, Nat.zero_add] at k0
          obtain ⟨pc, hpc⟩ : ∃ p, parseP b.data.toList = p := ⟨_, rfl⟩
          obtain ⟨cc, er⟩ := pc
          obtain ⟨a1, a2, a3, a4⟩ := cc
          have HP1 := Lib.hid (fun X (hX : Ext wr X) => (show Calls Tryd.prog 12 #[.string b] X (fun e X' => e = .returned (.tuple #[.agg #[.int .i64 a1, .int .i64 a2, .int .i64 a3, .int .i64 a4], .int .i64 er]) ∧ Ext X X') from by
            have := cparse_any b X (by omega) (HE.out X ((HX9.out.trans HXR.out).trans hX)); rw [hpc] at this; exact this))
          have HP2 := Lib.hid (fun X => (show Calls Tryd.prog 13 #[.string b] X (fun e X' => e = .returned (.tuple #[.agg #[.int .i64 a1, .int .i64 a2, .int .i64 a3, .int .i64 a4], .int .i64 er]) ∧ Ext X X') from by
            have := rparse_any b X (by omega); rw [hpc] at this; exact this))
          have hiI : (i : Int) < 3 := by omega
          clear hpc hbc hbs hbm hb hxr
          go_wp2_with (first | (go_at_call 12; refine (HP1.out _ (Ext.refl _)).mono ?_; rintro e v1 ⟨rfl, hy⟩; obtain ⟨q, qf⟩ := hy.cells; have k1 := (q _ _ hg).trans k0; have hg1 := Nat.lt_of_lt_of_le hg hy.lt; have HY1 := Lib.hid hy; clear q qf hy; have k1a : ∀ o, (v1.alloc o).cell? ⟨g9, i, none⟩ = some (.string b) := fun o => (World.cell?_alloc_lt _ _ _ hg1).trans k1; have hbx := Box.new v1 a1 a2 a3 a4 25) | (go_at_call 13; refine (HP2.out _).mono ?_; rintro e v2 ⟨rfl, hy⟩; have hbx2 := hbx.ext hy; have hby := Box.new v2 a1 a2 a3 a4 25; have hbx3 := hbx2.ext ((Ext.refl _).alloc (.cells #[.int .i64 a1, .int .i64 a2, .int .i64 a3, .int .i64 a4] 25)); obtain ⟨x9, x0, x1, x2, x3, _, _, _, _⟩ := hbx3; have HY2 := Lib.hid hy; clear hy))
          exact ⟨⟨i + 1, by omega, rfl, (HXR.out.trans (HY1.out.alloc _)).trans (HY2.out.alloc _)⟩, by simp [toMs]; omega⟩
        · obtain rfl : i = 3 := by omega
          go_wp2_with (first | (go_at_call 11; refine (lives_any _ (HE.out _ (HX9.out.trans HXR.out))).mono ?_; rintro e w7 ⟨rfl, hx7⟩))
          go_ret
          exact ⟨rfl, (HX9.out.trans HXR.out).trans hx7⟩
end Go.Proofs.YtbfogchdeijedaaDoor
