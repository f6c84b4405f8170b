/- The walk of the law LexerSpaces. -/
import Derived.Test.YtbmcplnfamgpcaaDoorAr
namespace Go.Proofs.YtbmcplnfamgpcaaDoor
open Go Go.RowKit

def sm : List Tk → Nat
  | [] => 0
  | t :: l => t.tx.length + sm l
theorem lex_sm : ∀ (m : Nat) (s : List UInt8), s.length ≤ m → ∀ k, sm (lexW k s).l ≤ s.length := by
  intro m
  induction m with
  | zero =>
    intro s hs k
    obtain rfl : s = [] := List.length_eq_zero_iff.1 (by omega)
    rw [lex_end (k := k) (s := []) rfl]; simp [sm]
  | succ m ih =>
    intro s hs k
    have hl := skipB_len false s
    rcases lex_cases k s with ⟨h0, h1⟩ | ⟨e, h0, ht, hne, h1⟩ | ⟨kd, n, v, h0, ht, hn, hnl, h1⟩
    · rw [h1]; simp [sm, endT]
    · rw [h1]; simp [sm]
    · have hr := rest_lt h0 hn
      have g1 := ih ((skipB false s).drop n) (by omega) (k + (s.length - (skipB false s).length) + n)
      rw [List.length_drop] at g1
      rw [h1]
      by_cases he : (lexW (k + (s.length - (skipB false s).length) + n) ((skipB false s).drop n)).e = 0
      · rw [put_ok he]
        simp only [sm]
        rw [List.length_take]; omega
      · rw [put_err he]; omega
/-- Gaps and texts, woven. -/
def txs (g : Nat → List UInt8) : Nat → List Tk → List UInt8
  | _, [] => []
  | k, t :: l => g k ++ (t.tx ++ txs g (k + 1) l)
def prs (g : Nat → List UInt8) : Nat → List Tk → List (List UInt8 × Tk)
  | _, [] => []
  | k, t :: l => (g k, t) :: prs g (k + 1) l
theorem txs_app (g : Nat → List UInt8) (b : List Tk) : ∀ (a : List Tk) (k : Nat), txs g k (a ++ b) = txs g k a ++ txs g (k + a.length) b
  | [], k => rfl
  | t :: a, k => by
    rw [List.cons_append, txs, txs, txs_app g b a (k + 1), List.length_cons, show k + 1 + a.length = k + (a.length + 1) by omega]
    simp
theorem txs_weave (g : Nat → List UInt8) (u : List UInt8) : ∀ (a : List Tk) (k : Nat), txs g k a ++ u = weave ((prs g k a).map fun p => (p.1, p.2.tx)) u
  | [], k => rfl
  | t :: a, k => by
    rw [txs, prs, List.map_cons, weave, ← txs_weave g u a (k + 1)]; simp
theorem prs_tri (g : Nat → List UInt8) : ∀ (a : List Tk) (k : Nat), (prs g k a).map (fun p => tri p.2) = a.map tri
  | [], k => rfl
  | t :: a, k => by rw [prs, List.map_cons, List.map_cons, prs_tri g a (k + 1)]
theorem prs_mem (g : Nat → List UInt8) : ∀ (a : List Tk) (k : Nat) (p : List UInt8 × Tk), p ∈ prs g k a → (∃ j, p.1 = g j) ∧ p.2 ∈ a
  | [], _, _, h => by cases h
  | t :: a, k, p, h => by
    rw [prs] at h
    rcases List.mem_cons.1 h with rfl | h
    · exact ⟨⟨k, rfl⟩, by simp⟩
    · obtain ⟨h1, h2⟩ := prs_mem g a (k + 1) p h
      exact ⟨h1, List.mem_cons_of_mem _ h2⟩
theorem txs_len (g : Nat → List UInt8) (hg : ∀ j, (g j).length ≤ 12) : ∀ (a : List Tk) (k : Nat), (txs g k a).length ≤ 12 * a.length + sm a
  | [], _ => Nat.zero_le _
  | t :: a, k => by
    have h1 := txs_len g hg a (k + 1)
    have h2 := hg k
    rw [txs, sm, List.length_cons, List.length_append, List.length_append]; omega
theorem txs_step (g : Nat → List UInt8) (l : List Tk) (i : Nat) (t : Tk) (h : l[i]? = some t) : txs g 0 (l.take (i + 1)) = txs g 0 (l.take i) ++ (g i ++ t.tx) := by
  have hi : i < l.length := (List.getElem?_eq_some_iff.1 h).1
  have e : l.take (i + 1) = l.take i ++ [t] := by rw [List.take_add_one, h]; rfl
  rw [e, txs_app, List.length_take, Nat.min_eq_left (by omega), Nat.zero_add]
  simp [txs]
theorem spaces_law {s : List UInt8} (he : (lexW 0 s).e = 0) (g : Nat → List UInt8) (hg : ∀ j, Gap (g j)) : (lexW 0 (txs g 0 (lexW 0 s).l)).e = 0 ∧ (lexW 0 (txs g 0 (lexW 0 s).l)).l.map tri = (lexW 0 s).l.map tri := by
  obtain ⟨_, ts, h1, h2⟩ := lex_toks s.length s (Nat.le_refl _) 0 he
  rw [h1, txs_app]
  have hu : txs g (0 + ts.length) [endT (0 + s.length)] = g (0 + ts.length) := by simp [txs, endT]
  rw [hu, txs_weave]
  obtain ⟨k1, c, r, k2, k3⟩ := hg (0 + ts.length)
  have := weave_lex (u := g (0 + ts.length)) (fun x hx => by
    rw [k2] at hx
    obtain rfl : c = x := by simpa using hx
    exact k3) (by have := k1 []; rw [List.append_nil] at this; rw [this]; rfl) (prs g 0 ts) (fun p hp => by
      obtain ⟨⟨j, hj⟩, hm⟩ := prs_mem g ts 0 p hp
      exact ⟨by rw [hj]; exact hg j, h2 _ hm⟩) 0
  rw [prs_tri] at this
  refine ⟨this.1, ?_⟩
  rw [this.2, List.map_append]; rfl
def gapL (k : Nat) : List UInt8 := match k with | 0 => [32] | 1 => [10] | 2 => [9, 32, 13] | 3 => [35, 10] | 4 => [32, 35, 32, 49, 32, 60, 32, 120, 32, 33, 64, 10] | _ => [35, 123, 10, 35, 125, 10]
theorem gapL_ok (k : Nat) : Gap (gapL k) ∧ (gapL k).length ≤ 12 := by
  unfold gapL
  split
  · exact ⟨⟨fun u => rfl, _, _, rfl, by decide⟩, by decide⟩
  · exact ⟨⟨fun u => rfl, _, _, rfl, by decide⟩, by decide⟩
  · exact ⟨⟨fun u => rfl, _, _, rfl, by decide⟩, by decide⟩
  · exact ⟨⟨fun u => rfl, _, _, rfl, by decide⟩, by decide⟩
  · exact ⟨⟨fun u => rfl, _, _, rfl, by decide⟩, by decide⟩
  · exact ⟨⟨fun u => rfl, _, _, rfl, by decide⟩, by decide⟩
def GapBox (W : World) (b : Nat) : Prop := b < W.heap.size ∧ ∀ k, k < 6 → W.cell? ⟨b, k, none⟩ = some (.string ⟨(gapL k).toArray⟩)
theorem GapBox.ext {W W' : World} {b : Nat} (h : GapBox W b) (hx : Ext W W') : GapBox W' b := by
  obtain ⟨q, _⟩ := hx.cells
  exact ⟨Nat.lt_of_lt_of_le h.1 hx.lt, fun k hk => by rw [q _ _ h.1]; exact h.2 k hk⟩
theorem GapBox.new (W : World) : GapBox (W.alloc (.cells #[.string ⟨#[32]⟩, .string ⟨#[10]⟩, .string ⟨#[9, 32, 13]⟩, .string ⟨#[35, 10]⟩, .string ⟨#[32, 35, 32, 49, 32, 60, 32, 120, 32, 33, 64, 10]⟩, .string ⟨#[35, 123, 10, 35, 125, 10]⟩] 9)) W.heap.size := by
  refine ⟨by simp, fun k hk => ?_⟩
  rcases (by omega : k = 0 ∨ k = 1 ∨ k = 2 ∨ k = 3 ∨ k = 4 ∨ k = 5) with rfl | rfl | rfl | rfl | rfl | rfl <;> (go_simp; rfl)
def SpRel (g : Nat → List UInt8) (L : List Tk) (s9 s10 : Value) : Prop := ∃ (i : Nat) (S : ByteArray), i ≤ L.length ∧ s10 = .int .i64 i ∧ s9 = .string S ∧ S.data.toList = txs g 0 (L.take i)
theorem sm_take (L : List Tk) (i : Nat) : sm (L.take i) ≤ sm L := by
  have h : ∀ a b : List Tk, sm (a ++ b) = sm a + sm b := fun a b => by
    induction a with
    | nil => simp [sm]
    | cons t a ih => rw [List.cons_append, sm, sm, ih]; omega
  have := h (L.take i) (L.drop i)
  rw [List.take_append_drop] at this; omega
set_option maxHeartbeats 8000000 in
set_option maxRecDepth 100000 in
theorem lawSpaces_any (s : ByteArray) (A : Option Addr) (c : Nat) (kl : List Int) (w : World) (hs : s.size ≤ 281474976710656) (hkb : ∀ n ∈ kl, -9223372036854775808 ≤ n ∧ n ≤ 9223372036854775807) (hks : SL icf 1 w A kl.length kl) (hE : EnvT w) :
    Calls Tryd.prog 9 #[.string s, .slice A kl.length c] w (BoolPost true w) := by
  have HSH := Lib.hid (fun X => short_any s 1000 X hs (by omega))
  have HLC := Lib.hid (lexk w hE)
  have HLV := Lib.hid (fun Y (hY : Ext w Y) => lives_any Y (hE.ext hY))
  have HPK := Lib.hid (fun (i : Nat) Y (hY : Ext w Y) => pick_any A c kl i 6 Y (by omega) (by omega) hkb (hks.ext hY))
  obtain ⟨nk, hnk⟩ : ∃ n, n = kl.length := ⟨_, rfl⟩
  rw [← hnk] at HPK ⊢
  clear hE hks hkb hnk
  go_enter Tryd.func9, Tryd.ntmps9
  go_upto_region 2 with (first | (go_at_call 13; refine (HSH.out _).mono ?_; rintro e w1 ⟨X, hX, HX, rfl, rfl⟩; obtain ⟨L, o, x, hr, hL⟩ := lexW_parts X.data.toList (by rw [list_size]; omega); have H1 := Lib.hid (HLC.out X (by omega) L o x hr); have HR := Lib.hid hr; clear hr) | (go_at_call 14; refine (H1.out _ (Ext.refl _)).mono ?_; rintro e w1 ⟨A1, c1, rfl, HL1, hx1⟩))
  by_cases hx0 : x = 0
  · subst hx0
    by_cases hbig : 200 < L.length
    · have hb' : (200 : Int) < (L.length : Int) := by omega
      go_wp2_with (first | (go_at_call 17; refine (HLV.out _ hx1).mono ?_; rintro e w4 ⟨rfl, hx⟩; have hx4 := hx1.trans hx; clear hx))
      go_ret
      exact ⟨rfl, hx4⟩
    · have hb' : ¬ (200 : Int) < (L.length : Int) := by omega
      have hsm := lex_sm _ X.data.toList (Nat.le_refl _) 0
      have hlaw := spaces_law (s := X.data.toList) (by rw [HR.out])
      rw [HR.out] at hsm hlaw
      simp only at hsm hlaw
      rw [list_size] at hsm
      obtain ⟨g, hg⟩ : ∃ g : Nat → List UInt8, ∀ i, ∃ k, k < 6 ∧ pkI kl i 6 = ((k : Nat) : Int) ∧ g i = gapL k := by
        refine ⟨fun i => gapL (pkI kl i 6).toNat, fun i => ?_⟩
        obtain ⟨k, h1, h2⟩ := pk_nat kl i 6 (by omega)
        exact ⟨k, h2, h1, by show gapL (pkI kl i 6).toNat = _; rw [h1, Int.toNat_natCast]⟩
      have hgo : ∀ j, Gap (g j) ∧ (g j).length ≤ 12 := fun j => by
        obtain ⟨k, _, _, h⟩ := hg j
        rw [h]; exact gapL_ok k
      have HLAW := Lib.hid (hlaw g fun j => (hgo j).1)
      have HTX := Lib.hid (fun i => txs_len g (fun j => (hgo j).2) (L.take i) 0)
      have HG := Lib.hid hg
      have HSM := Lib.hid (fun i => Nat.le_trans (sm_take L i) (Nat.le_trans hsm hX))
      clear hlaw hgo hg hsm
      go_upto_region 6 with (fail)
      have hgb := GapBox.new w1
      have hxg : Ext w1 (w1.alloc (.cells #[.string ⟨#[32]⟩, .string ⟨#[10]⟩, .string ⟨#[9, 32, 13]⟩, .string ⟨#[35, 10]⟩, .string ⟨#[32, 35, 32, 49, 32, 60, 32, 120, 32, 33, 64, 10]⟩, .string ⟨#[35, 123, 10, 35, 125, 10]⟩] 9)) := (Ext.refl w1).alloc _
      have HGB := Lib.hid hgb
      have HXG := Lib.hid hxg
      clear hgb hxg
      generalize w1.alloc (.cells #[.string ⟨#[32]⟩, .string ⟨#[10]⟩, .string ⟨#[9, 32, 13]⟩, .string ⟨#[35, 10]⟩, .string ⟨#[32, 35, 32, 49, 32, 60, 32, 120, 32, 33, 64, 10]⟩, .string ⟨#[35, 123, 10, 35, 125, 10]⟩] 9) = w2 at *
      generalize w1.heap.size = gb at *
      go_upto_region 7 with (fail)
      go_loopw [9, 10] (fun s9 s10 w' => SpRel g L s9 s10 ∧ Ext w2 w') (fun _ s10 _ => tokM' L.length s10)
      case atStart => exact ⟨⟨0, ⟨#[]⟩, by omega, rfl, rfl, rfl⟩, Ext.refl _⟩
      case round =>
        obtain ⟨⟨i, S, hi, rfl, rfl, hS⟩, hxr⟩ := hrel
        have HXR := Lib.hid hxr
        have HS := Lib.hid hS
        have hsz := HTX.out i
        rw [← hS, list_size, List.length_take] at hsz
        have hsm := HSM.out i
        clear hxr hS
        by_cases hil : i < L.length
        · obtain ⟨b1, o1, t, rfl, hb1, ht, p0, p1, p2, p3⟩ := (HL1.out.ext (HXG.out.trans HXR.out)).tok (k := i) hil
          obtain ⟨k, hk6, hpk, hgk⟩ := HG.out i
          have hgc := ((HGB.out.ext HXR.out).2 k hk6)
          rw [← hgk] at hgc
          have hst := txs_step g L i t ht
          have HPK2 := Lib.hid (fun Y (hY : Ext wr Y) => (show Calls Tryd.prog 23 #[.slice A nk c, .int .i64 i, .int .i64 6] Y (fun e Y' => e = .returned (.int .i64 k) ∧ Y' = Y) from by
            have := HPK.out i Y ((hx1.trans (HXG.out.trans HXR.out)).trans hY)
            rw [hpk] at this
            exact this.mono fun _ _ h => ⟨h.1, h.2.symm⟩))
          obtain ⟨G, hG⟩ : ∃ G : ByteArray, G = ⟨(g i).toArray⟩ := ⟨_, rfl⟩
          obtain ⟨T, hT⟩ : ∃ T : ByteArray, T = ⟨t.tx.toArray⟩ := ⟨_, rfl⟩
          rw [← hG] at hgc
          rw [← hT] at p2
          have hsz2 := HTX.out (i + 1)
          have hsm2 := HSM.out (i + 1)
          rw [hst, List.length_append, List.length_append, ← HS.out, list_size, List.length_take] at hsz2
          have hGs : G.size = (g i).length := by rw [← list_size, hG]
          have hTs : T.size = t.tx.length := by rw [← list_size, hT]
          have hq1 : ¬ 9223372036854775807 < S.size + G.size := by omega
          have hq2 : ¬ 9223372036854775807 < S.size + G.size + T.size := by omega
          have HF := Lib.hid (show (S ++ G ++ T).data.toList = txs g 0 (L.take (i + 1)) by
            rw [hst, app_list, app_list, HS.out, hG, hT]; simp)
          have hkI : (k : Int) < 6 := by omega
          have hiI : (i : Int) < (L.length : Int) := by omega
          have hi5 : (i : Int) ≤ 5000 := by omega
          clear hst hsz2 hsm2 hGs hTs hG hT hgk hpk ht hsz hsm
          go_upto_region 9 with (fail)
          go_quiet (first | (go_at_call 23; refine Calls.quiet_of_same (HPK2.out _ ((Ext.refl _).drewN _))))
          go_wp2
          exact ⟨⟨⟨i + 1, S ++ G ++ T, by omega, rfl, rfl, HF.out⟩, HXR.out.drewN _⟩, by simp only [tokM']; omega⟩
        · obtain rfl : i = L.length := by omega
          have hni : ¬ ((L.length : Int) < (L.length : Int)) := by omega
          have hS4 : S.size ≤ 4000 := by omega
          obtain ⟨M, o2, x2, hm, hM⟩ := lexW_parts S.data.toList (by rw [list_size]; exact hS4)
          obtain ⟨hx2, htri⟩ := HLAW.out
          have hSe : S.data.toList = txs g 0 L := by have := HS.out; rw [List.take_length] at this; exact this
          rw [← hSe, hm] at hx2 htri
          simp only at hx2 htri
          subst hx2
          have H2 := Lib.hid (HLC.out S hS4 M o2 0 hm)
          have HT := Lib.hid htri.symm
          have hxw := hx1.trans (HXG.out.trans HXR.out)
          have HL1' := Lib.hid (HL1.out.ext (HXG.out.trans HXR.out))
          clear hm htri hSe hsz hsm
          go_wp2_with (first | (go_at_call 14; refine (H2.out _ hxw).mono ?_; rintro e w3 ⟨A3, c3, rfl, HL3, hx⟩; have hx3 := hxw.trans hx; have HL1'' := Lib.hid (HL1'.out.ext hx); clear hx) | (go_at_call 21; refine (alike_true _ _ _ _ _ _ _ _ _ rfl rfl (by omega) (by omega) HL1''.out HL3.out HT.out).mono ?_; rintro e w4 ⟨rfl, hx⟩; have hx4 := hx3.trans hx; clear hx) | (go_at_call 17; refine (HLV.out _ hx4).mono ?_; rintro e w5 ⟨rfl, hx⟩; have hx5 := hx4.trans hx; clear hx))
          go_ret
          exact ⟨rfl, hx5⟩
  · have hx' : (x != 0) = true := by rw [bne_iff_ne]; exact hx0
    clear hx0
    go_wp2_with (first | (go_at_call 17; refine (HLV.out _ hx1).mono ?_; rintro e w4 ⟨rfl, hx⟩; have hx4 := hx1.trans hx; clear hx))
    go_ret
    exact ⟨rfl, hx4⟩
end Go.Proofs.YtbmcplnfamgpcaaDoor
