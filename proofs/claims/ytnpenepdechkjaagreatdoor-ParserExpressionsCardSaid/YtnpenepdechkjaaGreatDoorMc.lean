/- The production's call. -/
import Derived.Test.YtnpenepdechkjaaGreatDoorMb
namespace Go.Proofs.YtnpenepdechkjaaGreatDoor
open Go Go.RowKit

/-- What is left of a call's reading: m arguments, of which ts have been read before. -/
def caR (E : Nat → Nat → List Tk → PR Tr) (o : Nat) (s : List UInt8) : Nat → List Tr → List Tk → PR Tr
  | 0, ts, r => (mustP wClose r).bind fun _ r => .ok (.nd 10 0 s ts) r
  | m + 1, ts, r => (if ts.length = 0 then PR.ok () r else mustP wComma r).bind fun _ r => (E 1 (o + 1) r).bind fun b r => caR E o s m (ts ++ [b]) r
theorem call_ca (E : Nat → Nat → List Tk → PR Tr) (o : Nat) (r : List Tk) : callP E o r = (tokP 1 r).bind fun t r => (opensP wOpen o r).bind fun _ r => caR E o t.tx (argsN t.tx) [] r := by
  have h : ∀ s r, (E 1 (o + 1) r).bind (fun a r => if argsN s = 1 then (mustP wClose r).bind fun _ r => PR.ok (.nd 10 0 s [a]) r else (mustP wComma r).bind fun _ r => (E 1 (o + 1) r).bind fun b r => (mustP wClose r).bind fun _ r => .ok (.nd 10 0 s [a, b]) r) = caR E o s (argsN s) [] r := fun s r => by
    unfold argsN
    split
    · simp only [if_true, caR, List.length_nil, PR.bind_ok, List.nil_append]
    · simp only [show ¬ (2 = 1) by decide, if_false, if_true, caR, List.length_nil, PR.bind_ok, List.nil_append, List.length_cons, show ¬ (0 + 1 = 0) by decide, List.cons_append]
  unfold callP
  simp only [h]
theorem argsN_le (s : List UInt8) : argsN s ≤ 2 := by unfold argsN; split <;> omega
theorem tok_ok {k : Int} {r r1 : List Tk} {t : Tk} (h : tokP k r = .ok t r1) : r1 = r.tail ∧ t = hd r ∧ (hd r).kd = k := by
  unfold tokP at h
  split at h
  · injection h with h1 h2; exact ⟨h2.symm, h1.symm, by assumption⟩
  · cases h
def CaRel (W : World) (b : Nat) (A : Option Addr) (N c : Nat) (toks : List Tk) (a o : Nat) (E : Nat → Nat → List Tk → PR Tr) (s : List UInt8) (S : ByteArray) (n : Nat) (RES : PR Tr) (g2 g3 : Nat) (s14 : Value) (X : World) : Prop :=
  ∃ (k a' : Nat) (A3 : Option Addr) (c3 : Nat) (hs : List Nd) (ts : List Tr), k ≤ n ∧ s14 = .int .i64 k ∧ a < a' ∧ hs.length = k ∧ PB X b A N c toks a' (o + 1) ∧ NX X g3 10 0 S (.slice A3 k c3) ∧ KR X (W.heap.size + 1) g3 (.slice A3 k c3) hs ts ∧
    NX X g2 0 0 ⟨#[]⟩ (.slice none 0 0) ∧ caR E o s (n - k) ts (toks.drop a') = RES ∧ Mv b W X
set_option maxHeartbeats 4000000 in
set_option maxRecDepth 100000 in
theorem pcall_any {E : Nat → Nat → List Tk → PR Tr} {M : Nat} (hE : EC E M) {W : World} {b : Nat} {A : Option Addr} {N c : Nat} {toks : List Tk} {a o : Nat} (h : PB W b A N c toks a o) (ho : o ≤ 12) (hM : 9 * (N - a) ≤ M) :
    Calls Tryz.prog 161 #[.pointer (some ⟨b, 0, none⟩)] W (GP b A N c toks a o (RT W.heap.size) W (callP E o (toks.drop a))) := by
  have HP := Lib.hid h
  have HLEN := Lib.hid h.len
  have hx0 : Ext W (W.alloc (.cells #[.int .i64 0, .int .i64 0, .string ⟨#[]⟩, .slice none 0 0] 31)) := (Ext.refl W).alloc _
  have HX0 := Lib.hid hx0
  have hfd := fieldTx
  rw [call_ca]
  have hNa : a < N := h.at_
  cases hT : tokP 1 (toks.drop a) with
  | bad r er =>
    have hk : (hd (toks.drop a)).kd ≠ 1 := fun e => by unfold tokP at hT; rw [if_pos e] at hT; cases hT
    have her : r = toks.drop a ∧ er = 20 := by
      unfold tokP at hT; rw [if_neg hk] at hT
      injection hT with h1 h2
      exact ⟨h1.symm, h2.symm⟩
    obtain ⟨rfl, rfl⟩ := her
    have HO := Lib.hid (fun X (hX : Ext W X) => ptok_no (h.ext hX) 1 hk)
    rw [PR.bind_bad]
    clear h hx0 hT hk
    go_enter Tryz.func161, Tryz.ntmps161
    go_wp2_with (first | (go_at_call 76; refine (HO.out _ HX0.out).mono ?_; rintro e w1 ⟨rfl, hx1⟩))
    exact ⟨rfl, a, o, rfl, Nat.le_refl _, rfl, HP.out.ext (HX0.out.trans hx1), Mv.of_ext (HX0.out.trans hx1)⟩
  | ok t r1 =>
    obtain ⟨hr1, ht, hk⟩ := tok_ok hT
    have htl := (hd_mem h).2.2
    rw [htl] at hr1
    subst hr1
    have HO := Lib.hid (fun X (hX : Ext W X) => ptok_yes (h.ext hX) 1 (by decide) t ht.symm (by rw [ht]; exact hk))
    rw [PR.bind_ok]
    obtain ⟨n, hn⟩ : ∃ n, n = argsN t.tx := ⟨_, rfl⟩
    have hn2 := argsN_le t.tx
    obtain ⟨S, hS⟩ : ∃ S, S = bs t.tx := ⟨_, rfl⟩
    have HAR := Lib.hid (fun X => pargs_any t.tx S hS X)
    have HS := Lib.hid hS
    rw [← hn] at hn2 HAR ⊢
    rw [← hS] at HO
    generalize t.tx = s at *
    cases hO : opensP wOpen o (toks.drop (a + 1)) with
    | bad r er =>
      rw [PR.bind_bad]
      have HOO := Lib.hid hO
      clear h hx0 hT hk ht htl hO hS hn
      go_enter Tryz.func161, Tryz.ntmps161
      go_wp2_with (first
        | (go_at_call 76; refine (HO.out _ HX0.out).mono ?_; rintro e w1 ⟨rfl, hp1, hm1⟩; have HP1 := Lib.hid hp1; clear hp1)
        | (go_at_call 127; have h9 := popens_any (HP1.out.ext ((Ext.refl _).alloc (.cells #[.int .i64 10, .int .i64 0, .string S, .slice none 0 0] 31))) ho wOpen ⟨#[40]⟩ rfl (by decide); rw [HOO.out] at h9; refine h9.mono ?_; clear h9; rintro e w2 ⟨a2, o2, rfl, ha2, hr2, hp2, hm2⟩; have HR2 := Lib.hid hr2; clear hr2))
      exact ⟨rfl, a2, o2, rfl, by omega, HR2.out, hp2, (((Mv.of_ext HX0.out).trans hm1).trans (Mv.of_ext ((Ext.refl _).alloc _))).trans hm2⟩
    | ok u r2 =>
      rw [PR.bind_ok]
      have HOO := Lib.hid hO
      have ho11 : o + 1 ≤ 12 := by have := (opens_ok hO).2.1; omega
      obtain ⟨RES, hRES⟩ : ∃ R, R = caR E o s n [] r2 := ⟨_, rfl⟩
      have HRS := Lib.hid hRES
      rw [← hRES]
      clear h hx0 hT hk ht htl hO hS hn hRES
      go_enter Tryz.func161, Tryz.ntmps161
      go_upto_region 3 with (first
        | (go_at_call 76; refine (HO.out _ HX0.out).mono ?_; rintro e w1 ⟨rfl, hp1, hm1⟩; have HP1 := Lib.hid hp1; clear hp1)
        | (go_at_call 127; have h9 := popens_any (HP1.out.ext ((Ext.refl _).alloc (.cells #[.int .i64 10, .int .i64 0, .string S, .slice none 0 0] 31))) ho wOpen ⟨#[40]⟩ rfl (by decide); rw [HOO.out] at h9; refine h9.mono ?_; clear h9; rintro e w2 ⟨v2, a2, rfl, rfl, ha2, hr2, hp2, hm2⟩; have HR2 := Lib.hid hr2; clear hr2))
      have hbW : b < W.heap.size := HP.out.lt
      have h1s : W.heap.size + 1 ≤ w1.heap.size := by have := hm1.size; simpa using this
      have hmv := (((Mv.of_ext HX0.out).trans hm1).trans (Mv.of_ext ((Ext.refl _).alloc (.cells #[.int .i64 10, .int .i64 0, .string S, .slice none 0 0] 31)))).trans hm2
      have hg2 : NX w2 W.heap.size 0 0 ⟨#[]⟩ (.slice none 0 0) := NX.mv (show NX (W.alloc (.cells #[.int .i64 0, .int .i64 0, .string ⟨#[]⟩, .slice none 0 0] 31)) W.heap.size 0 0 ⟨#[]⟩ (.slice none 0 0) from heap_alloc_new _ _) ((hm1.trans (Mv.of_ext ((Ext.refl _).alloc _))).trans hm2) (by omega)
      have hg3 : NX w2 w1.heap.size 10 0 S (.slice none 0 0) := NX.mv (show NX (w1.alloc (.cells #[.int .i64 10, .int .i64 0, .string S, .slice none 0 0] 31)) w1.heap.size 10 0 S (.slice none 0 0) from heap_alloc_new _ _) hm2 (by omega)
      have e2 := hg3.nb.c2
      obtain ⟨g3, hg3e⟩ : ∃ g, g = w1.heap.size := ⟨_, rfl⟩
      obtain ⟨g2, hg2e⟩ : ∃ g, g = W.heap.size := ⟨_, rfl⟩
      rw [← hg3e] at hg3 e2 h1s ⊢
      have hstart : ∀ X, Ext w2 X → CaRel W b A N c toks a o E s S n RES g2 g3 (.int .i64 0) X := fun X hX =>
        ⟨0, a2, none, 0, [], [], by omega, rfl, by omega, rfl, hp2.ext hX, hg3.mv (Mv.of_ext hX : Mv b _ _) (by omega), KR.nil X _ _, by rw [hg2e]; exact hg2.mv (Mv.of_ext hX : Mv b _ _) (by omega), by rw [HRS.out, HR2.out]; rfl, hmv.trans (Mv.of_ext hX)⟩
      have HST := Lib.hid hstart
      have HG2 := Lib.hid hg2e
      have hbg2 : b < g2 := by omega
      have hg23 : g2 < g3 := by omega
      clear hstart hg2e hg3e hg3 hg2 hmv h1s hp2 hm2 HR2 HOO HRS hm1 HP1 HO HX0 hbW
      go_wp2_with (first | (go_at_call 181; refine (HAR.out _).mono ?_; rintro e w3 ⟨rfl, hx3⟩))
      go_loopw [4, 14] (fun _ s14 X => CaRel W b A N c toks a o E s S n RES g2 g3 s14 X) (fun _ s14 _ => toM 3 s14)
      case atStart => exact HST.out _ hx3
      case round =>
        clear HST HAR e2 hx3
        obtain ⟨k, a', A3, c3, hs, ts, hk2, rfl, haa, hhl, hpb, hnx, hkr, hg2x, hres, hmv⟩ := hrel
        have HPB := Lib.hid hpb
        have HNX := Lib.hid hnx
        have HKR := Lib.hid hkr
        have HG2X := Lib.hid hg2x
        have HMV := Lib.hid hmv
        have HHL := Lib.hid hhl
        have hlen := HLEN.out
        clear hpb hnx hkr hg2x hmv hhl
        by_cases hk : k < n
        · have hkI : (k : Int) < (n : Int) := by omega
          have hnk : n - k = (n - (k + 1)) + 1 := by omega
          rw [hnk, caR, ← HKR.out.2.1, HHL.out] at hres
          by_cases hk0 : k = 0
          · rw [if_pos hk0, PR.bind_ok] at hres
            subst hk0
            cases hB : E 1 (o + 1) (toks.drop a') with
            | bad r er =>
              rw [hB, PR.bind_bad] at hres
              have HB := Lib.hid hB
              subst hres
              clear hB
              go_upto_region 8 with (fail)
              have HR5 := Lib.hid (show toks.drop a' = toks.drop a' from rfl)
              obtain ⟨w5, hw5⟩ : ∃ w5, w5 = wr := ⟨_, rfl⟩
              have hm5 : Mv b wr w5 := by rw [hw5]; exact Mv.refl b wr
              have HP5 := Lib.hid (show PB w5 b A N c toks a' (o + 1) from by rw [hw5]; exact HPB.out)
              rw [← hw5]
              obtain ⟨a5, ha5e⟩ : ∃ a5, a5 = a' := ⟨_, rfl⟩
              have hlt5 : a < a5 := by omega
              rw [← ha5e] at HP5
              have HR5 := Lib.hid (show toks.drop a' = toks.drop a5 from by rw [ha5e])
              clear hw5 ha5e
              have hE5 := hE w5.drew b A N c toks a5 (o + 1) 1 (HP5.out.ext (Ext.refl _).drew) ho11 (by omega) (by omega) (by have := HP5.out.at_; omega)
              rw [← HR5.out, HB.out] at hE5
              have HE5 := Lib.hid hE5
              have HNX5 := Lib.hid (HNX.out.mv hm5 (by omega))
              have e3 := HNX5.out.nb.c3
              clear hE5 hlen
              refine wp_region_E (fun _ => True) (fun X => X.cell? ⟨g3, 3, none⟩ = some (.slice A3 0 c3)) (fun _ => true) (by kernel_rfl) ?_
              have hT0 : w5.drew.cell? ⟨g3, 3, none⟩ = some (.slice A3 0 c3) := e3
              refine wpE_takeT (i := 0) (d := some 21) (v := .pointer (some ⟨g3, 3, none⟩)) rfl rfl (by kernel_rfl) (by kernel_rfl) (by kernel_rfl) rfl (fun _ _ _ h => h) (by rfl) ?hy0a hT0 ?go0a
              case hy0a =>
                intro w9 hT9
                clear e3
                go_simp
              (try simp only [Act.put, List.setIfInBounds_toArray, List.set_cons_zero, List.set_cons_succ])
              refine wpE_takeT (i := 1) (d := some 22) (v := .slice A3 0 c3) rfl rfl (by kernel_rfl) (by kernel_rfl) (by kernel_rfl) rfl (fun _ _ _ h => h) (by rfl) ?hy1a hT0 ?go1a
              case hy1a =>
                intro w9 hT9
                clear e3
                go_simp
              (try simp only [Act.put, List.setIfInBounds_toArray, List.set_cons_zero, List.set_cons_succ])
              refine wpE_takeT (i := 2) (d := some 23) (v := .pointer (some ⟨b, 0, none⟩)) rfl rfl (by kernel_rfl) (by kernel_rfl) (by kernel_rfl) rfl (fun _ _ _ h => h) (by rfl) ?hy2a hT0 ?go2a
              case hy2a =>
                intro w9 hT9
                clear e3
                go_simp
              (try simp only [Act.put, List.setIfInBounds_toArray, List.set_cons_zero, List.set_cons_succ])
              refine wpE_all (rs := [3]) (by kernel_rfl) (by simp) ?_
              refine AllE.cons rfl (fun K hK => ?_) AllE.nil
              simp only [List.getElem_toArray, List.getElem_cons_succ, List.getElem_cons_zero]
              go_simp
              go_at_call 87
              refine (HE5.out).mono ?_
              rintro e w6 ⟨a6, o6, rfl, ha6, hr6, hp6, hm6⟩
              simp only []
              exact ⟨rfl, a6, o6, rfl, by omega, hr6, hp6, (HMV.out.trans hm5).trans ((Mv.of_ext (Ext.refl _).drew).trans hm6)⟩
            | ok tb r2 =>
              rw [hB, PR.bind_ok] at hres
              have HB := Lib.hid hB
              have HRES := Lib.hid hres
              clear hB hres
              go_upto_region 8 with (fail)
              have HR5 := Lib.hid (show toks.drop a' = toks.drop a' from rfl)
              obtain ⟨w5, hw5⟩ : ∃ w5, w5 = wr := ⟨_, rfl⟩
              have hm5 : Mv b wr w5 := by rw [hw5]; exact Mv.refl b wr
              have HP5 := Lib.hid (show PB w5 b A N c toks a' (o + 1) from by rw [hw5]; exact HPB.out)
              rw [← hw5]
              obtain ⟨a5, ha5e⟩ : ∃ a5, a5 = a' := ⟨_, rfl⟩
              have hlt5 : a < a5 := by omega
              rw [← ha5e] at HP5
              have HR5 := Lib.hid (show toks.drop a' = toks.drop a5 from by rw [ha5e])
              clear hw5 ha5e
              have hE5 := hE w5.drew b A N c toks a5 (o + 1) 1 (HP5.out.ext (Ext.refl _).drew) ho11 (by omega) (by omega) (by have := HP5.out.at_; omega)
              rw [← HR5.out, HB.out] at hE5
              have HE5 := Lib.hid hE5
              have HNX5 := Lib.hid (HNX.out.mv hm5 (by omega))
              have e3 := HNX5.out.nb.c3
              have HKR5 := Lib.hid (HKR.out.mv hm5 (by rw [HG2.out] at hbg2; omega))
              have HG25 := Lib.hid (HG2X.out.mv hm5 (by omega))
              have hk5 : hs.length ≤ 100 := by have := HHL.out; omega
              clear hE5 hlen
              have hbs : b < W.heap.size + 1 := by rw [HG2.out] at hbg2; omega
              have h5s : W.heap.size + 1 ≤ w5.heap.size := by have := lt_of_block HNX5.out; have := HG2.out; omega
              have hg35 : g3 < w5.heap.size := lt_of_block HNX5.out
              go_region_law (first
                | (go_simp; go_at_call 87; refine (HE5.out).mono ?_; rintro e w6 ⟨v2, a6, rfl, ⟨d2, rfl, hrep⟩, ha6, hr6, hp6, hm6⟩; have hm56 : Mv b w5 w6 := (Mv.of_ext (Ext.refl _).drew).trans hm6; obtain ⟨A7, c7, w7, hrun, hkr7, hbel, hkeep, hsz7, hown7⟩ := KR.append (HKR5.out.mv hm56 hbs) (W := w5) (fun k hk => (HKR5.out.lt k hk).2) hg35 d2 tb hrep h5s hm56.size hk5 w6.heap.size rfl; rw [HHL.out] at hrun hkr7 hown7; have HNX6 := Lib.hid (HNX5.out.mv hm56 (by omega)); have e3a := HNX6.out.nb.c3; have e3b := (NX.mv (b := b) HNX6.out (Mv.of_ext ((Ext.refl _).alloc (.cells #[.int .i64 d2.k, .int .i64 d2.n, .string d2.s, .slice d2.A d2.m d2.c] 31))) (by omega)).nb.c3; have HRUN := Lib.hid hrun; have HKR7 := Lib.hid hkr7; have HNX7 := Lib.hid (show NX w7 g3 10 0 S (.slice A3 0 c3) from (hkeep g3 (lt_of_block HNX6.out) HKR5.out.2.2.1).trans HNX6.out); have e37 := HNX7.out.nb.c3; have f37 := HNX7.out.nb.f3; have HKEEP := Lib.hid hkeep; have HBEL := Lib.hid hbel; have HR6 := Lib.hid hr6; have HP6 := Lib.hid hp6; have HSZ7 := Lib.hid hsz7; have HOWN7 := Lib.hid hown7; clear hrep hkr7 hrun hkeep hbel hr6 hp6 hsz7 hown7; simp only [])
                | (refine step_append_run (s := .tmp 22) (x := .tmp 25) HRUN.out rfl rfl rfl rfl rfl ?_))
              all_goals
                go_wp2
                have hmW := (HMV.out.trans hm5).trans hm56
                have hown : ∀ k9, (Value.slice A3 0 c3).ownBlock = some k9 → W.heap.size + 1 ≤ k9 := fun k9 e => (HKR5.out.lt k9 e).1
                have hm7 := hmW.grow HP.out.lt (Nat.le_succ _) HBEL.out HKEEP.out hown HSZ7.out
                have hg3W : W.heap.size ≤ g3 := by have := HG2.out; omega
                have hp7 : PB w7 b A N c toks a6 (o + 1) := HP6.out.keep W.heap.size HP.out.lt HP.out.lts (fun k9 h9 => HKEEP.out k9 (Nat.lt_of_lt_of_le h9 hmW.size) (fun e => by have := hown k9 e; omega))
                have hnx8 : NX (w7.setCell ⟨g3, 3, none⟩ (.slice A7 (0 + 1) c7)) g3 10 0 S (.slice A7 (0 + 1) c7) := (heap_setCell_same w7 g3 3 _ 31 _ HNX7.out).trans rfl
                refine ⟨⟨0 + 1, a6, A7, c7, hs ++ [d2], ts ++ [tb], by omega, by simp, by omega, by simp [HHL.out], HP.out.setNew hp7 (p := ⟨g3, 3, none⟩) hg3W _, hnx8, HKR7.out.keep (by simp) (fun k9 h1 h2 h3 => heap_setCell_other w7 _ k9 _ h2), ?_, ?_, hm7.setNew (p := ⟨g3, 3, none⟩) hg3W _⟩, by first | (simp only [toM]; omega) | (simp [toM])⟩
                · have hg2W : g2 < W.heap.size + 1 := by have := HG2.out; omega
                  exact (heap_setCell_other w7 ⟨g3, 3, none⟩ g2 _ (by simp only; omega)).trans ((HKEEP.out g2 (by have := lt_of_block HG25.out; have := hm56.size; omega) (fun e => by have := hown g2 e; omega)).trans (HG25.out.mv hm56 (by omega)))
                · rw [← HR6.out]; exact HRES.out
          · rw [if_neg hk0] at hres
            have hk0I : 0 < (k : Int) := by omega
            have HMU := Lib.hid (pmust_any HPB.out wComma ⟨#[44]⟩ rfl (by decide))
            cases hM : mustP wComma (toks.drop a') with
            | bad r er =>
              rw [hM] at HMU
              rw [hM, PR.bind_bad] at hres
              subst hres
              clear hM hlen
              go_wp2_with (first | (go_at_call 74; refine (HMU.out).mono ?_; rintro e w5 ⟨a5, o5, rfl, ha5, hr5, hp5, hm5⟩; have HR5 := Lib.hid hr5; clear hr5))
              exact ⟨rfl, a5, o5, rfl, by omega, HR5.out, hp5, HMV.out.trans hm5⟩
            | ok u r1 =>
              rw [hM] at HMU
              rw [hM, PR.bind_ok] at hres
              have HR1 := Lib.hid (must_ok hM)
              clear hM
              cases hB : E 1 (o + 1) r1 with
              | bad r er =>
                rw [hB, PR.bind_bad] at hres
                have HB := Lib.hid hB
                subst hres
                clear hB
                go_upto_region 8 with (first | (go_at_call 74; refine (HMU.out).mono ?_; rintro e w5 ⟨v5, a5, rfl, rfl, ha5, hr5, hp5, hm5⟩; have HR5 := Lib.hid hr5; have HP5 := Lib.hid hp5; clear hr5 hp5))
                have hlt5 : a < a5 := by have := drop_at (by rw [← HLEN.out]; exact HP5.out.at_) (HR1.out.symm.trans HR5.out); omega
                have hE5 := hE w5.drew b A N c toks a5 (o + 1) 1 (HP5.out.ext (Ext.refl _).drew) ho11 (by omega) (by omega) (by have := HP5.out.at_; omega)
                rw [← HR5.out, HB.out] at hE5
                have HE5 := Lib.hid hE5
                have HNX5 := Lib.hid (HNX.out.mv hm5 (by omega))
                have e3 := HNX5.out.nb.c3
                clear hE5 hlen
                refine wp_region_E (fun _ => True) (fun X => X.cell? ⟨g3, 3, none⟩ = some (.slice A3 k c3)) (fun _ => true) (by kernel_rfl) ?_
                have hT0 : w5.drew.cell? ⟨g3, 3, none⟩ = some (.slice A3 k c3) := e3
                refine wpE_takeT (i := 0) (d := some 21) (v := .pointer (some ⟨g3, 3, none⟩)) rfl rfl (by kernel_rfl) (by kernel_rfl) (by kernel_rfl) rfl (fun _ _ _ h => h) (by rfl) ?hy0b hT0 ?go0b
                case hy0b =>
                  intro w9 hT9
                  clear e3
                  go_simp
                (try simp only [Act.put, List.setIfInBounds_toArray, List.set_cons_zero, List.set_cons_succ])
                refine wpE_takeT (i := 1) (d := some 22) (v := .slice A3 k c3) rfl rfl (by kernel_rfl) (by kernel_rfl) (by kernel_rfl) rfl (fun _ _ _ h => h) (by rfl) ?hy1b hT0 ?go1b
                case hy1b =>
                  intro w9 hT9
                  clear e3
                  go_simp
                (try simp only [Act.put, List.setIfInBounds_toArray, List.set_cons_zero, List.set_cons_succ])
                refine wpE_takeT (i := 2) (d := some 23) (v := .pointer (some ⟨b, 0, none⟩)) rfl rfl (by kernel_rfl) (by kernel_rfl) (by kernel_rfl) rfl (fun _ _ _ h => h) (by rfl) ?hy2b hT0 ?go2b
                case hy2b =>
                  intro w9 hT9
                  clear e3
                  go_simp
                (try simp only [Act.put, List.setIfInBounds_toArray, List.set_cons_zero, List.set_cons_succ])
                refine wpE_all (rs := [3]) (by kernel_rfl) (by simp) ?_
                refine AllE.cons rfl (fun K hK => ?_) AllE.nil
                simp only [List.getElem_toArray, List.getElem_cons_succ, List.getElem_cons_zero]
                go_simp
                go_at_call 87
                refine (HE5.out).mono ?_
                rintro e w6 ⟨a6, o6, rfl, ha6, hr6, hp6, hm6⟩
                simp only []
                exact ⟨rfl, a6, o6, rfl, by omega, hr6, hp6, (HMV.out.trans hm5).trans ((Mv.of_ext (Ext.refl _).drew).trans hm6)⟩
              | ok tb r2 =>
                rw [hB, PR.bind_ok] at hres
                have HB := Lib.hid hB
                have HRES := Lib.hid hres
                clear hB hres
                go_upto_region 8 with (first | (go_at_call 74; refine (HMU.out).mono ?_; rintro e w5 ⟨v5, a5, rfl, rfl, ha5, hr5, hp5, hm5⟩; have HR5 := Lib.hid hr5; have HP5 := Lib.hid hp5; clear hr5 hp5))
                have hlt5 : a < a5 := by have := drop_at (by rw [← HLEN.out]; exact HP5.out.at_) (HR1.out.symm.trans HR5.out); omega
                have hE5 := hE w5.drew b A N c toks a5 (o + 1) 1 (HP5.out.ext (Ext.refl _).drew) ho11 (by omega) (by omega) (by have := HP5.out.at_; omega)
                rw [← HR5.out, HB.out] at hE5
                have HE5 := Lib.hid hE5
                have HNX5 := Lib.hid (HNX.out.mv hm5 (by omega))
                have e3 := HNX5.out.nb.c3
                have HKR5 := Lib.hid (HKR.out.mv hm5 (by rw [HG2.out] at hbg2; omega))
                have HG25 := Lib.hid (HG2X.out.mv hm5 (by omega))
                have hk5 : hs.length ≤ 100 := by have := HHL.out; omega
                clear hE5 hlen
                have hbs : b < W.heap.size + 1 := by rw [HG2.out] at hbg2; omega
                have h5s : W.heap.size + 1 ≤ w5.heap.size := by have := lt_of_block HNX5.out; have := HG2.out; omega
                have hg35 : g3 < w5.heap.size := lt_of_block HNX5.out
                go_region_law (first
                  | (go_simp; go_at_call 87; refine (HE5.out).mono ?_; rintro e w6 ⟨v2, a6, rfl, ⟨d2, rfl, hrep⟩, ha6, hr6, hp6, hm6⟩; have hm56 : Mv b w5 w6 := (Mv.of_ext (Ext.refl _).drew).trans hm6; obtain ⟨A7, c7, w7, hrun, hkr7, hbel, hkeep, hsz7, hown7⟩ := KR.append (HKR5.out.mv hm56 hbs) (W := w5) (fun k hk => (HKR5.out.lt k hk).2) hg35 d2 tb hrep h5s hm56.size hk5 w6.heap.size rfl; rw [HHL.out] at hrun hkr7 hown7; have HNX6 := Lib.hid (HNX5.out.mv hm56 (by omega)); have e3a := HNX6.out.nb.c3; have e3b := (NX.mv (b := b) HNX6.out (Mv.of_ext ((Ext.refl _).alloc (.cells #[.int .i64 d2.k, .int .i64 d2.n, .string d2.s, .slice d2.A d2.m d2.c] 31))) (by omega)).nb.c3; have HRUN := Lib.hid hrun; have HKR7 := Lib.hid hkr7; have HNX7 := Lib.hid (show NX w7 g3 10 0 S (.slice A3 k c3) from (hkeep g3 (lt_of_block HNX6.out) HKR5.out.2.2.1).trans HNX6.out); have e37 := HNX7.out.nb.c3; have f37 := HNX7.out.nb.f3; have HKEEP := Lib.hid hkeep; have HBEL := Lib.hid hbel; have HR6 := Lib.hid hr6; have HP6 := Lib.hid hp6; have HSZ7 := Lib.hid hsz7; have HOWN7 := Lib.hid hown7; clear hrep hkr7 hrun hkeep hbel hr6 hp6 hsz7 hown7; simp only [])
                  | (refine step_append_run (s := .tmp 22) (x := .tmp 25) HRUN.out rfl rfl rfl rfl rfl ?_))
                all_goals
                  go_wp2
                  have hmW := (HMV.out.trans hm5).trans hm56
                  have hown : ∀ k9, (Value.slice A3 k c3).ownBlock = some k9 → W.heap.size + 1 ≤ k9 := fun k9 e => (HKR5.out.lt k9 e).1
                  have hm7 := hmW.grow HP.out.lt (Nat.le_succ _) HBEL.out HKEEP.out hown HSZ7.out
                  have hg3W : W.heap.size ≤ g3 := by have := HG2.out; omega
                  have hp7 : PB w7 b A N c toks a6 (o + 1) := HP6.out.keep W.heap.size HP.out.lt HP.out.lts (fun k9 h9 => HKEEP.out k9 (Nat.lt_of_lt_of_le h9 hmW.size) (fun e => by have := hown k9 e; omega))
                  have hnx8 : NX (w7.setCell ⟨g3, 3, none⟩ (.slice A7 (k + 1) c7)) g3 10 0 S (.slice A7 (k + 1) c7) := (heap_setCell_same w7 g3 3 _ 31 _ HNX7.out).trans rfl
                  refine ⟨⟨k + 1, a6, A7, c7, hs ++ [d2], ts ++ [tb], by omega, by simp, by omega, by simp [HHL.out], HP.out.setNew hp7 (p := ⟨g3, 3, none⟩) hg3W _, hnx8, HKR7.out.keep (by simp) (fun k9 h1 h2 h3 => heap_setCell_other w7 _ k9 _ h2), ?_, ?_, hm7.setNew (p := ⟨g3, 3, none⟩) hg3W _⟩, by first | (simp only [toM]; omega) | (simp [toM])⟩
                  · have hg2W : g2 < W.heap.size + 1 := by have := HG2.out; omega
                    exact (heap_setCell_other w7 ⟨g3, 3, none⟩ g2 _ (by simp only; omega)).trans ((HKEEP.out g2 (by have := lt_of_block HG25.out; have := hm56.size; omega) (fun e => by have := hown g2 e; omega)).trans (HG25.out.mv hm56 (by omega)))
                  · rw [← HR6.out]; exact HRES.out
        · have hkI : ¬ (k : Int) < (n : Int) := by omega
          obtain rfl : k = n := by omega
          have hres2 : (mustP wClose (toks.drop a')).bind (fun _ r => PR.ok (.nd 10 0 s ts) r) = RES := by rw [Nat.sub_self] at hres; exact hres
          have HCL := Lib.hid (pcloses_any HPB.out ho wClose ⟨#[41]⟩ rfl (by decide))
          clear hres
          cases hM : mustP wClose (toks.drop a') with
          | bad r er =>
            rw [hM] at HCL
            rw [hM, PR.bind_bad] at hres2
            subst hres2
            clear hM hlen
            go_wp2_with (first | (go_at_call 159; refine (HCL.out).mono ?_; rintro e w5 ⟨a5, o5, rfl, ha5, hr5, hp5, hm5⟩; have HR5 := Lib.hid hr5; clear hr5))
            exact ⟨rfl, a5, o5, rfl, by omega, HR5.out, hp5, HMV.out.trans hm5⟩
          | ok u r1 =>
            rw [hM] at HCL
            rw [hM, PR.bind_ok] at hres2
            subst hres2
            clear hM hlen
            go_upto_region 11 with (first | (go_at_call 159; refine (HCL.out).mono ?_; rintro e w5 ⟨v5, a5, rfl, rfl, ha5, hr5, hp5, hm5⟩; have HR5 := Lib.hid hr5; have HP5 := Lib.hid hp5; clear hr5 hp5))
            have hbs : b < W.heap.size + 1 := by rw [HG2.out] at hbg2; omega
            have HKR5 := Lib.hid (HKR.out.mv hm5 hbs)
            obtain ⟨_, e0, e1, e2, e3, _, _, _, _⟩ := (HNX.out.mv hm5 (by omega)).nb
            have h2x := (HG2X.out.mv hm5 (by omega)).nb
            rw [HG2.out] at h2x
            obtain ⟨_, d0, d1, d2, d3, f0, f1, f2, f3⟩ := h2x
            go_wp2
            refine bodyPost_ret (v := .agg #[.int .i64 10, .int .i64 0, .string S, .slice A3 k c3]) (by simp [results, Tryz.results161, go_sem, *]) rfl ?_
            have hg2W : W.heap.size ≤ W.heap.size := Nat.le_refl _
            have hkr := HKR5.out.keep (W' := (((w5.setCell ⟨W.heap.size, 0, none⟩ (.int .i64 10)).setCell ⟨W.heap.size, 1, none⟩ (.int .i64 0)).setCell ⟨W.heap.size, 2, none⟩ (.string S)).setCell ⟨W.heap.size, 3, none⟩ (.slice A3 k c3)) (by simp) (fun k9 h1 _ _ => by
              rw [heap_setCell_other _ _ _ _ (by simp only; omega), heap_setCell_other _ _ _ _ (by simp only; omega), heap_setCell_other _ _ _ _ (by simp only; omega), heap_setCell_other _ _ _ _ (by simp only; omega)])
            obtain ⟨A9, c9, e9, hrep⟩ := hkr.rep 10 0 s
            have hl9 := HHL.out
            rw [hl9] at e9 hrep
            injection e9 with e9 _ e9'
            subst e9 e9'
            exact ⟨_, a5, rfl, ⟨⟨10, 0, bs s, A3, k, c3⟩, by rw [HS.out], hrep.mono fun k9 h9 _ => by omega⟩, by omega, HR5.out,
              HP.out.setNew (HP.out.setNew (HP.out.setNew (HP.out.setNew HP5.out (p := ⟨W.heap.size, 0, none⟩) hg2W _) (p := ⟨W.heap.size, 1, none⟩) hg2W _) (p := ⟨W.heap.size, 2, none⟩) hg2W _) (p := ⟨W.heap.size, 3, none⟩) hg2W _,
              ((((HMV.out.trans hm5).setNew (p := ⟨W.heap.size, 0, none⟩) hg2W _).setNew (p := ⟨W.heap.size, 1, none⟩) hg2W _).setNew (p := ⟨W.heap.size, 2, none⟩) hg2W _).setNew (p := ⟨W.heap.size, 3, none⟩) hg2W _⟩
end Go.Proofs.YtnpenepdechkjaaGreatDoor

/- The production's primary. -/
namespace Go.Proofs.YtnpenepdechkjaaGreatDoor
open Go Go.RowKit

/-- A node is written to the result's block. -/
def fin4 (X : World) (g : Nat) (v0 v1 v2 v3 : Value) : World := (((X.setCell ⟨g, 0, none⟩ v0).setCell ⟨g, 1, none⟩ v1).setCell ⟨g, 2, none⟩ v2).setCell ⟨g, 3, none⟩ v3
theorem PB.fin {W X : World} {b : Nat} {A : Option Addr} {N c : Nat} {toks : List Tk} {a o a0 o0 : Nat} (h0 : PB W b A N c toks a0 o0) (h : PB X b A N c toks a o) (v0 v1 v2 v3 : Value) : PB (fin4 X W.heap.size v0 v1 v2 v3) b A N c toks a o :=
  h0.setNew (h0.setNew (h0.setNew (h0.setNew h (p := ⟨W.heap.size, 0, none⟩) (Nat.le_refl _) _) (p := ⟨W.heap.size, 1, none⟩) (Nat.le_refl _) _) (p := ⟨W.heap.size, 2, none⟩) (Nat.le_refl _) _) (p := ⟨W.heap.size, 3, none⟩) (Nat.le_refl _) _
theorem Mv.fin {W X : World} {b : Nat} (h : Mv b W X) (v0 v1 v2 v3 : Value) : Mv b W (fin4 X W.heap.size v0 v1 v2 v3) :=
  (((h.setNew (p := ⟨W.heap.size, 0, none⟩) (Nat.le_refl _) _).setNew (p := ⟨W.heap.size, 1, none⟩) (Nat.le_refl _) _).setNew (p := ⟨W.heap.size, 2, none⟩) (Nat.le_refl _) _).setNew (p := ⟨W.heap.size, 3, none⟩) (Nat.le_refl _) _
theorem Rep.fin {X : World} {g : Nat} {d : Nd} {t : Tr} {n : Nat} (h : Rep X (fun k => n ≤ k) d t) (hg : g < n) (v0 v1 v2 v3 : Value) : Rep (fin4 X g v0 v1 v2 v3) (fun k => g ≤ k) d t :=
  (h.keep (W' := fin4 X g v0 v1 v2 v3) (by simp [fin4]) (fun k h1 _ => by
    unfold fin4
    rw [heap_setCell_other _ _ _ _ (by simp only; omega), heap_setCell_other _ _ _ _ (by simp only; omega), heap_setCell_other _ _ _ _ (by simp only; omega), heap_setCell_other _ _ _ _ (by simp only; omega)])).mono fun k h1 _ => by omega
set_option maxHeartbeats 8000000 in
set_option maxRecDepth 100000 in
theorem pprim_any {E : Nat → Nat → List Tk → PR Tr} {M : Nat} (hE : EC E M) {W : World} {b : Nat} {A : Option Addr} {N c : Nat} {toks : List Tk} {a o : Nat} (h : PB W b A N c toks a o) (ho : o ≤ 12) (hM : 9 * (N - a) ≤ M) :
    Calls Tryz.prog 128 #[.pointer (some ⟨b, 0, none⟩)] W (GP b A N c toks a o (RT W.heap.size) W (primP E o (toks.drop a))) := by
  have HP := Lib.hid h
  have HLEN := Lib.hid h.len
  have hNa : a < N := h.at_
  obtain ⟨g, off, t, rfl, _, hmem, h4, htl, k0, k1, k2, k3⟩ := h.tk
  have h32 := h.tx32
  have hgo : t.kd ≠ 0 → a + 1 < N := fun hk => h.go (by rw [h4]; exact hk)
  have htx0 : t.tx ≠ [] → t.kd ≠ 0 := fun hx => h.wf.kd0 hmem hx
  have HGO := Lib.hid hgo
  have HTX0 := Lib.hid htx0
  have hlt := h.lt
  rw [h4] at h32
  obtain ⟨RES, hres⟩ : ∃ R, primP E o (toks.drop a) = R := ⟨_, rfl⟩
  have HH4 := Lib.hid h4
  rw [hres]
  unfold primP at hres
  rw [h4, htl] at hres
  obtain ⟨kd, at_, tx, nm⟩ := t
  simp only at k0 k1 k2 k3 h32 hgo htx0 hres
  have HRES := Lib.hid hres
  obtain ⟨S, hS⟩ : ∃ S, S = bs tx := ⟨_, rfl⟩
  have k2 : W.cell? ⟨g, off + (a * 4 + 2), none⟩ = some (.string S) := by rw [hS]; exact k2
  rw [← Nat.add_assoc] at k1 k2 k3
  have hg : g < W.heap.size := block_lt_of_cell k0
  have HX := Lib.hid ((Ext.refl W).alloc (.cells #[.int .i64 0, .int .i64 0, .string ⟨#[]⟩, .slice none 0 0] 31))
  have c0 := (HP.out.ext HX.out).c0
  have c1 := (HP.out.ext HX.out).c1
  have e0 := (HX.out.cells.1 g (off + a * 4) hg).trans k0
  have e1 := (HX.out.cells.1 g (off + a * 4 + 1) hg).trans k1
  have e2 := (HX.out.cells.1 g (off + a * 4 + 2) hg).trans k2
  have e3 := (HX.out.cells.1 g (off + a * 4 + 3) hg).trans k3
  have haI : (a : Int) < (N : Int) := by omega
  have haJ : (a : Int) ≤ 100000 := by have := h.nb; omega
  have HSE := Lib.hid hS
  clear h h4 htl k0 k1 k2 k3 hS hgo htx0 hmem hres
  go_enter Tryz.func128, Tryz.ntmps128
  go_upto_region 1 with (fail)
  have hlt1 : b < (W.alloc (.cells #[.int .i64 0, .int .i64 0, .string ⟨#[]⟩, .slice none 0 0] 31)).heap.size := (HP.out.ext HX.out).lt
  have hg1 : g < (W.alloc (.cells #[.int .i64 0, .int .i64 0, .string ⟨#[]⟩, .slice none 0 0] 31)).heap.size := Nat.lt_of_lt_of_le hg HX.out.lt
  have hn2 : NX (W.alloc (.cells #[.int .i64 0, .int .i64 0, .string ⟨#[]⟩, .slice none 0 0] 31)) W.heap.size 0 0 ⟨#[]⟩ (.slice none 0 0) := heap_alloc_new _ _
  have HS1 := Lib.hid (show (W.alloc (.cells #[.int .i64 0, .int .i64 0, .string ⟨#[]⟩, .slice none 0 0] 31)).heap.size = W.heap.size + 1 by simp)
  generalize W.alloc (.cells #[.int .i64 0, .int .i64 0, .string ⟨#[]⟩, .slice none 0 0] 31) = w1 at *
  go_cut [3] (fun s3 wx => s3 = .pointer (some ⟨w1.heap.size, 0, none⟩) ∧ wx = w1.drew.alloc (.cells #[.int .i64 kd, .int .i64 at_, .string S, .int .i64 nm] 46))
  case first =>
    go_region
    all_goals
      go_wp2
      go_meet
      case rel => exact ⟨rfl, rfl⟩
  case rest =>
    obtain ⟨rfl, hwc⟩ := hcut
    have hx5 : Ext w1 wc := by rw [hwc]; exact (Ext.refl _).drew.alloc _
    have q5 : TBox wc w1.heap.size kd at_ S nm := by rw [hwc]; exact TBox.new w1.drew kd at_ nm S 46
    have HP5 := Lib.hid ((HP.out.ext HX.out).ext hx5)
    have HYtnpenepdechkjaaGreatDoor := Lib.hid (HX.out.trans hx5)
    have HN2 := Lib.hid (NX.mv (b := b) hn2 (Mv.of_ext hx5) (by omega))
    clear hwc hx5 c0 c1 e0 e1 e2 e3 HX hlt1 hg1 hn2
    obtain ⟨g3, hg3⟩ : ∃ g3, g3 = w1.heap.size := ⟨_, rfl⟩
    have hs1 : g3 = W.heap.size + 1 := hg3.trans HS1.out
    rw [← hg3] at q5 ⊢
    clear hg3 HS1
    have HQ5 := Lib.hid q5
    obtain ⟨_, d0, d1, d2, d3, _, _, _, _⟩ := q5
    obtain ⟨_, z0, z1, z2, z3, f0, f1, f2, f3⟩ := HN2.out.nb
    have HPX := Lib.hid (fun X (hX : Ext wc X) => HP5.out.ext hX)
    have p1 := HP5.out.c1
    have pf1 := HP5.out.fz 1
    have hb2 : ¬ b = W.heap.size := by omega
    have hb3 : ¬ b = g3 := by omega
    have h23 : ¬ W.heap.size = g3 := by omega
    have HTA := Lib.hid (fun X (hX : Ext wc X) (s : List UInt8) (T : ByteArray) (hT : T = bs s) (hx : tx ≠ s) => ptake_no (HP5.out.ext hX) s T hT (by rw [HH4.out]; exact hx))
    have HTY := Lib.hid (fun X (hX : Ext wc X) (s : List UInt8) (T : ByteArray) (hT : T = bs s) (hs : s ≠ []) (hx : tx = s) => ptake_yes (HP5.out.ext hX) s T hT hs (by rw [HH4.out]; exact hx))
    have HWI := Lib.hid (fun X (hX : Ext wc X) (ws : List (List UInt8)) (hws : WL ws) (hj : (Jw ws).length ≤ 1000) (v : Bool) (hv : v = decide (tx ≠ [] ∧ tx ∈ ws)) L (hL : L = bs (Jw ws)) => pwithin_any L S ws tx hL hj HSE.out h32.1 h32.2 hws v hv X (HP5.out.ext hX).ml)
    have hmW := Mv.of_ext (b := b) HYtnpenepdechkjaaGreatDoor.out
    have hres := HRES.out
    have HS1 := Lib.hid hs1
    clear HRES hs1
    by_cases hk2 : kd = 2
    · rw [if_pos hk2] at hres
      subst hk2
      subst hres
      have hgo1 := HGO.out (show (2 : Int) ≠ 0 by decide)
      have hp1 := HP5.out.set1 (a + 1) hgo1
      rw [show (((a + 1 : Nat) : Int)) = (a : Int) + 1 by omega] at hp1
      clear HGO HTX0 HTA HTY HWI h32
      go_wp2
      refine bodyPost_ret (v := .agg #[.int .i64 1, .int .i64 nm, .string ⟨#[]⟩, .slice none 0 0]) (by simp [results, Tryz.results128, go_sem, *]) rfl ?_
      exact ⟨_, a + 1, rfl, ⟨⟨1, nm, ⟨#[]⟩, none, 0, 0⟩, rfl, Rep.leaf _ _ 1 nm []⟩, by omega, rfl, HP.out.fin hp1 _ _ _ _, (hmW.trans (Mv.set _)).fin _ _ _ _⟩
    rw [if_neg hk2] at hres
    have nk2 : (kd == 2) = false := by simpa using hk2
    by_cases hk3 : kd = 3
    · rw [if_pos hk3] at hres
      subst hk3
      subst hres
      have hgo1 := HGO.out (show (3 : Int) ≠ 0 by decide)
      have hp1 := HP5.out.set1 (a + 1) hgo1
      rw [show (((a + 1 : Nat) : Int)) = (a : Int) + 1 by omega] at hp1
      clear HGO HTX0 HTA HTY HWI h32
      go_wp2
      refine bodyPost_ret (v := .agg #[.int .i64 3, .int .i64 nm, .string ⟨#[]⟩, .slice none 0 0]) (by simp [results, Tryz.results128, go_sem, *]) rfl ?_
      exact ⟨_, a + 1, rfl, ⟨⟨3, nm, ⟨#[]⟩, none, 0, 0⟩, rfl, Rep.leaf _ _ 3 nm []⟩, by omega, rfl, HP.out.fin hp1 _ _ _ _, (hmW.trans (Mv.set _)).fin _ _ _ _⟩
    rw [if_neg hk3] at hres
    have nk3 : (kd == 3) = false := by simpa using hk3
    by_cases ht0 : tx = wTrue
    · rw [if_pos ht0] at hres
      have HY := Lib.hid (fun X (hX : Ext wc X) => HTY.out X hX wTrue ⟨#[116, 114, 117, 101]⟩ rfl (by decide) ht0)
      subst hres
      clear HGO HTX0 HTA HTY HWI h32 ht0
      go_upto_region 9 with (first | (go_at_call 117; refine (HY.out _ (Ext.refl _)).mono ?_; rintro e w9 ⟨rfl, hp9, hm9⟩))
      have HP9 := Lib.hid hp9
      have hm5 : Mv b wc w9 := hm9
      obtain ⟨_, z0, z1, z2, z3, f0, f1, f2, f3⟩ := (HN2.out.mv hm5 (by omega)).nb
      clear hp9
      go_wp2
      refine bodyPost_ret (v := .agg #[.int .i64 2, .int .i64 1, .string ⟨#[]⟩, .slice none 0 0]) (by simp [results, Tryz.results128, go_sem, *]) rfl ?_
      exact ⟨_, a + 1, rfl, ⟨⟨2, 1, ⟨#[]⟩, none, 0, 0⟩, rfl, Rep.leaf _ _ 2 1 []⟩, by omega, rfl, HP.out.fin HP9.out _ _ _ _, (hmW.trans hm5).fin _ _ _ _⟩
    rw [if_neg ht0] at hres
    have HNO0 := Lib.hid (fun X (hX : Ext wc X) => HTA.out X hX wTrue ⟨#[116, 114, 117, 101]⟩ rfl ht0)
    by_cases ht1 : tx = wFalse
    · rw [if_pos ht1] at hres
      have HY := Lib.hid (fun X (hX : Ext wc X) => HTY.out X hX wFalse ⟨#[102, 97, 108, 115, 101]⟩ rfl (by decide) ht1)
      subst hres
      clear HGO HTX0 HTA HTY HWI h32 ht1
      go_upto_region 11 with (first | (have hg := hx6; clear hg; go_at_call 117; refine (HY.out _ hx6).mono ?_; rintro e w9 ⟨rfl, hp9, hm9⟩) | (go_at_call 117; refine (HNO0.out _ (Ext.refl _)).mono ?_; rintro e w6 ⟨rfl, hx6⟩))
      have HP9 := Lib.hid hp9
      have hm5 : Mv b wc w9 := (Mv.of_ext hx6).trans hm9
      obtain ⟨_, z0, z1, z2, z3, f0, f1, f2, f3⟩ := (HN2.out.mv hm5 (by omega)).nb
      clear hp9
      go_wp2
      refine bodyPost_ret (v := .agg #[.int .i64 2, .int .i64 0, .string ⟨#[]⟩, .slice none 0 0]) (by simp [results, Tryz.results128, go_sem, *]) rfl ?_
      exact ⟨_, a + 1, rfl, ⟨⟨2, 0, ⟨#[]⟩, none, 0, 0⟩, rfl, Rep.leaf _ _ 2 0 []⟩, by omega, rfl, HP.out.fin HP9.out _ _ _ _, (hmW.trans hm5).fin _ _ _ _⟩
    rw [if_neg ht1] at hres
    have HNO1 := Lib.hid (fun X (hX : Ext wc X) => HTA.out X hX wFalse ⟨#[102, 97, 108, 115, 101]⟩ rfl ht1)
    by_cases hop : tx = wOpen
    · rw [if_pos hop] at hres
      have hb : (S.toList == [40]) = true := by rw [HSE.out, bs_list, hop]; decide
      have HO := Lib.hid (fun X (hX : Ext wc X) => popens_any (HP5.out.ext hX) ho wOpen ⟨#[40]⟩ rfl (by decide))
      cases hO : opensP wOpen o (toks.drop a) with
      | bad rr er =>
        rw [hO] at HO
        rw [hO, PR.bind_bad] at hres
        subst hres
        clear HGO HTX0 HTA HTY HWI h32 hop hO
        go_upto_region 12 with (first | (have hg := hx6; clear hg; go_at_call 117; refine (HNO1.out _ hx6).mono ?_; rintro e w7 ⟨rfl, hx67⟩; have hx7 := hx6.trans hx67; clear hx67) | (go_at_call 117; refine (HNO0.out _ (Ext.refl _)).mono ?_; rintro e w6 ⟨rfl, hx6⟩))
        have HX7 := Lib.hid hx7
        clear d0 d1 d2 d3 z0 z1 z2 z3 f0 f1 f2 f3 p1 pf1
        obtain ⟨_, y0, y1, y2, y3, yf0, yf1, yf2, yf3⟩ := (NX.mv (b := b) HN2.out (Mv.of_ext hx7) (by omega)).nb
        obtain ⟨_, t0, t1, t2, t3, _, _, _, _⟩ := HQ5.out.ext hx7
        go_wp2_with (first | (go_at_call 127; refine (HO.out _ HX7.out).mono ?_; rintro e w8 ⟨a8, o8, rfl, ha8, hr8, hp8, hm8⟩; have HR8 := Lib.hid hr8; clear hr8))
        exact ⟨rfl, a8, o8, rfl, ha8, HR8.out, hp8, (hmW.trans (Mv.of_ext HX7.out)).trans hm8⟩
      | ok u r1 =>
        rw [hO] at HO
        rw [hO, PR.bind_ok] at hres
        have ho11 : o + 1 ≤ 12 := by have := (opens_ok hO).2.1; omega
        have HO1 := Lib.hid (opens_ok hO).1
        cases hA : E 1 (o + 1) r1 with
        | bad rr er =>
          have HA := Lib.hid hA
          rw [hA, PR.bind_bad] at hres
          subst hres
          clear HGO HTX0 HTA HTY HWI h32 hop hO hA
          go_upto_region 12 with (first | (have hg := hx6; clear hg; go_at_call 117; refine (HNO1.out _ hx6).mono ?_; rintro e w7 ⟨rfl, hx67⟩; have hx7 := hx6.trans hx67; clear hx67) | (go_at_call 117; refine (HNO0.out _ (Ext.refl _)).mono ?_; rintro e w6 ⟨rfl, hx6⟩))
          have HX7 := Lib.hid hx7
          clear d0 d1 d2 d3 z0 z1 z2 z3 f0 f1 f2 f3 p1 pf1
          obtain ⟨_, y0, y1, y2, y3, yf0, yf1, yf2, yf3⟩ := (NX.mv (b := b) HN2.out (Mv.of_ext hx7) (by omega)).nb
          obtain ⟨_, t0, t1, t2, t3, _, _, _, _⟩ := HQ5.out.ext hx7
          go_wp2_with (first
            | (go_at_call 127; refine (HO.out _ HX7.out).mono ?_; rintro e w8 ⟨v8, a8, rfl, rfl, ha8, hr8, hp8, hm8⟩; have HR8 := Lib.hid hr8; have HP8 := Lib.hid hp8; clear hr8 hp8)
            | (go_at_call 87; have h9 := hE w8 b (some ⟨g, off, none⟩) N c toks a8 (o + 1) 1 HP8.out ho11 (by omega) (by omega) (by have := drop_at (by rw [← HLEN.out]; exact HP8.out.at_) (HO1.out.symm.trans HR8.out); omega); rw [← HR8.out, HA.out] at h9; refine h9.mono ?_; clear h9; rintro e w9 ⟨a9, o9, rfl, ha9, hr9, hp9, hm9⟩; have HR9 := Lib.hid hr9; clear hr9))
          exact ⟨rfl, a9, o9, rfl, by omega, HR9.out, hp9, ((hmW.trans (Mv.of_ext HX7.out)).trans hm8).trans hm9⟩
        | ok ta r2 =>
          have HA := Lib.hid hA
          rw [hA, PR.bind_ok] at hres
          cases hC : mustP wClose r2 with
          | bad rr er =>
            have HC := Lib.hid hC
            rw [hC, PR.bind_bad] at hres
            subst hres
            clear HGO HTX0 HTA HTY HWI h32 hop hO hA hC
            go_upto_region 12 with (first | (have hg := hx6; clear hg; go_at_call 117; refine (HNO1.out _ hx6).mono ?_; rintro e w7 ⟨rfl, hx67⟩; have hx7 := hx6.trans hx67; clear hx67) | (go_at_call 117; refine (HNO0.out _ (Ext.refl _)).mono ?_; rintro e w6 ⟨rfl, hx6⟩))
            have HX7 := Lib.hid hx7
            clear d0 d1 d2 d3 z0 z1 z2 z3 f0 f1 f2 f3 p1 pf1
            obtain ⟨_, y0, y1, y2, y3, yf0, yf1, yf2, yf3⟩ := (NX.mv (b := b) HN2.out (Mv.of_ext hx7) (by omega)).nb
            obtain ⟨_, t0, t1, t2, t3, _, _, _, _⟩ := HQ5.out.ext hx7
            go_wp2_with (first
              | (go_at_call 127; refine (HO.out _ HX7.out).mono ?_; rintro e w8 ⟨v8, a8, rfl, rfl, ha8, hr8, hp8, hm8⟩; have HR8 := Lib.hid hr8; have HP8 := Lib.hid hp8; clear hr8 hp8)
              | (go_at_call 87; have h9 := hE w8 b (some ⟨g, off, none⟩) N c toks a8 (o + 1) 1 HP8.out ho11 (by omega) (by omega) (by have := drop_at (by rw [← HLEN.out]; exact HP8.out.at_) (HO1.out.symm.trans HR8.out); omega); rw [← HR8.out, HA.out] at h9; refine h9.mono ?_; clear h9; rintro e w9 ⟨v9, a9, rfl, ⟨d, rfl, hrep⟩, ha9, hr9, hp9, hm9⟩; have HR9 := Lib.hid hr9; have HP9 := Lib.hid hp9; have HREP := Lib.hid hrep; clear hr9 hp9 hrep)
              | (go_at_call 159; have h9 := pcloses_any (HP9.out.ext ((Ext.refl _).alloc (.cells #[.int .i64 d.k, .int .i64 d.n, .string d.s, .slice d.A d.m d.c] 31))) ho wClose ⟨#[41]⟩ rfl (by decide); rw [← HR9.out, HC.out] at h9; refine h9.mono ?_; clear h9; rintro e w10 ⟨a10, o10, rfl, ha10, hr10, hp10, hm10⟩; have HR10 := Lib.hid hr10; clear hr10))
            exact ⟨rfl, a10, o10, rfl, by omega, HR10.out, hp10, ((((hmW.trans (Mv.of_ext HX7.out)).trans hm8).trans hm9).trans (Mv.of_ext ((Ext.refl _).alloc _))).trans hm10⟩
          | ok u2 r3 =>
            have HC := Lib.hid hC
            rw [hC, PR.bind_ok] at hres
            subst hres
            clear HGO HTX0 HTA HTY HWI h32 hop hO hA hC
            go_upto_region 12 with (first | (have hg := hx6; clear hg; go_at_call 117; refine (HNO1.out _ hx6).mono ?_; rintro e w7 ⟨rfl, hx67⟩; have hx7 := hx6.trans hx67; clear hx67) | (go_at_call 117; refine (HNO0.out _ (Ext.refl _)).mono ?_; rintro e w6 ⟨rfl, hx6⟩))
            have HX7 := Lib.hid hx7
            clear d0 d1 d2 d3 z0 z1 z2 z3 f0 f1 f2 f3 p1 pf1
            obtain ⟨_, y0, y1, y2, y3, yf0, yf1, yf2, yf3⟩ := (NX.mv (b := b) HN2.out (Mv.of_ext hx7) (by omega)).nb
            obtain ⟨_, t0, t1, t2, t3, _, _, _, _⟩ := HQ5.out.ext hx7
            go_upto_region 16 with (first
              | (go_at_call 127; refine (HO.out _ HX7.out).mono ?_; rintro e w8 ⟨v8, a8, rfl, rfl, ha8, hr8, hp8, hm8⟩; have HR8 := Lib.hid hr8; have HP8 := Lib.hid hp8; clear hr8 hp8)
              | (go_at_call 87; have h9 := hE w8 b (some ⟨g, off, none⟩) N c toks a8 (o + 1) 1 HP8.out ho11 (by omega) (by omega) (by have := drop_at (by rw [← HLEN.out]; exact HP8.out.at_) (HO1.out.symm.trans HR8.out); omega); rw [← HR8.out, HA.out] at h9; refine h9.mono ?_; clear h9; rintro e w9 ⟨v9, a9, rfl, ⟨d, rfl, hrep⟩, ha9, hr9, hp9, hm9⟩; have HR9 := Lib.hid hr9; have HP9 := Lib.hid hp9; have HREP := Lib.hid hrep; clear hr9 hp9 hrep)
              | (go_at_call 159; have h9 := pcloses_any (HP9.out.ext ((Ext.refl _).alloc (.cells #[.int .i64 d.k, .int .i64 d.n, .string d.s, .slice d.A d.m d.c] 31))) ho wClose ⟨#[41]⟩ rfl (by decide); rw [← HR9.out, HC.out] at h9; refine h9.mono ?_; clear h9; rintro e w10 ⟨v10, a10, rfl, rfl, ha10, hr10, hp10, hm10⟩; have HR10 := Lib.hid hr10; have HP10 := Lib.hid hp10; clear hr10 hp10))
            have hmx : Mv b w9 (w9.alloc (.cells #[.int .i64 d.k, .int .i64 d.n, .string d.s, .slice d.A d.m d.c] 31)) := Mv.of_ext ((Ext.refl _).alloc _)
            have hs8 : W.heap.size + 1 ≤ w8.heap.size := by have := HN2.out.nb.lt; have := HX7.out.lt; have := hm8.size; omega
            obtain ⟨_, x0, x1, x2, x3, _, _, _, _⟩ := (NX.mv (show NX (w9.alloc (.cells #[.int .i64 d.k, .int .i64 d.n, .string d.s, .slice d.A d.m d.c] 31)) w9.heap.size d.k d.n d.s (.slice d.A d.m d.c) from heap_alloc_new _ _) hm10 (by have := HP9.out.lt; omega)).nb
            obtain ⟨_, j0, j1, j2, j3, jf0, jf1, jf2, jf3⟩ := (HN2.out.mv ((((Mv.of_ext HX7.out).trans hm8).trans hm9).trans (hmx.trans hm10)) (by omega)).nb
            go_wp2
            refine bodyPost_ret (v := .agg #[.int .i64 d.k, .int .i64 d.n, .string d.s, .slice d.A d.m d.c]) (by simp [results, Tryz.results128, go_sem, *]) rfl ?_
            exact ⟨_, a10, rfl, ⟨d, rfl, (((HREP.out.mono (Q := fun k => W.heap.size + 1 ≤ k) (fun k h1 _ => by omega)).mv hmx (fun k h1 => by omega)).mv hm10 (fun k h1 => by omega)).fin (by omega) _ _ _ _⟩, by omega, HR10.out, HP.out.fin HP10.out _ _ _ _, (((((hmW.trans (Mv.of_ext HX7.out)).trans hm8).trans hm9).trans hmx).trans hm10).fin _ _ _ _⟩
    rw [if_neg hop] at hres
    have nop : (S.toList == [40]) = false := by rw [HSE.out, bs_list]; exact beq_eq_false_iff_ne.2 hop
    by_cases hif : tx = wIf
    · rw [if_pos hif] at hres
      have hb : (S.toList == [105, 102]) = true := by rw [HSE.out, bs_list, hif]; decide
      have HCH := Lib.hid (fun X (hX : Ext wc X) => pchoice_any hE (HP5.out.ext hX) ho hM)
      cases hO : choiceP E o (toks.drop a) with
      | bad rr er =>
        rw [hO] at HCH
        rw [hO] at hres
        subst hres
        clear HGO HTX0 HTA HTY HWI h32 hO
        go_upto_region 12 with (first | (have hg := hx6; clear hg; go_at_call 117; refine (HNO1.out _ hx6).mono ?_; rintro e w7 ⟨rfl, hx67⟩; have hx7 := hx6.trans hx67; clear hx67) | (go_at_call 117; refine (HNO0.out _ (Ext.refl _)).mono ?_; rintro e w6 ⟨rfl, hx6⟩))
        have HX7 := Lib.hid hx7
        clear d0 d1 d2 d3 z0 z1 z2 z3 f0 f1 f2 f3 p1 pf1
        obtain ⟨_, y0, y1, y2, y3, yf0, yf1, yf2, yf3⟩ := (NX.mv (b := b) HN2.out (Mv.of_ext hx7) (by omega)).nb
        obtain ⟨_, t0, t1, t2, t3, _, _, _, _⟩ := HQ5.out.ext hx7
        go_wp2_with (first | (go_at_call 160; refine (HCH.out _ HX7.out).mono ?_; rintro e w9 ⟨a9, o9, rfl, ha9, hr9, hp9, hm9⟩; have HR9 := Lib.hid hr9; clear hr9))
        exact ⟨rfl, a9, o9, rfl, ha9, HR9.out, hp9, (hmW.trans (Mv.of_ext HX7.out)).trans hm9⟩
      | ok tt r1 =>
        rw [hO] at HCH
        rw [hO] at hres
        subst hres
        clear HGO HTX0 HTA HTY HWI h32 hO
        go_upto_region 12 with (first | (have hg := hx6; clear hg; go_at_call 117; refine (HNO1.out _ hx6).mono ?_; rintro e w7 ⟨rfl, hx67⟩; have hx7 := hx6.trans hx67; clear hx67) | (go_at_call 117; refine (HNO0.out _ (Ext.refl _)).mono ?_; rintro e w6 ⟨rfl, hx6⟩))
        have HX7 := Lib.hid hx7
        have hs7 := HN2.out.nb.lt
        clear d0 d1 d2 d3 z0 z1 z2 z3 f0 f1 f2 f3 p1 pf1
        obtain ⟨_, y0, y1, y2, y3, yf0, yf1, yf2, yf3⟩ := (NX.mv (b := b) HN2.out (Mv.of_ext hx7) (by omega)).nb
        obtain ⟨_, t0, t1, t2, t3, _, _, _, _⟩ := HQ5.out.ext hx7
        go_wp2_with (first | (go_at_call 160; refine (HCH.out _ HX7.out).mono ?_; rintro e w9 ⟨v9, a9, rfl, ⟨d, rfl, hrep⟩, ha9, hr9, hp9, hm9⟩; have HR9 := Lib.hid hr9; have HP9 := Lib.hid hp9; have HREP := Lib.hid hrep; have hm59 := (Mv.of_ext (b := b) HX7.out).trans hm9; obtain ⟨_, j0, j1, j2, j3, jf0, jf1, jf2, jf3⟩ := (HN2.out.mv hm59 (by omega)).nb; clear hr9 hp9 hrep))
        refine bodyPost_ret (v := .agg #[.int .i64 d.k, .int .i64 d.n, .string d.s, .slice d.A d.m d.c]) (by simp [results, Tryz.results128, go_sem, *]) rfl ?_
        have hsz := (show Ext wc _ from HX7.out).lt
        exact ⟨_, a9, rfl, ⟨d, rfl, (HREP.out.mono (Q := fun k => W.heap.size + 1 ≤ k) (fun k h1 _ => by omega)).fin (by omega) _ _ _ _⟩, ha9, HR9.out, HP.out.fin HP9.out _ _ _ _, (hmW.trans hm59).fin _ _ _ _⟩
    rw [if_neg hif] at hres
    have nif : (S.toList == [105, 102]) = false := by rw [HSE.out, bs_list]; exact beq_eq_false_iff_ne.2 hif
    by_cases hfu : tx ∈ functions
    · rw [if_pos hfu] at hres
      have HW1 := Lib.hid (fun X (hX : Ext wc X) L hL => HWI.out X hX functions wl_functions jw_functions true (decide_eq_true ⟨fun e => by rw [e] at hfu; revert hfu; decide, hfu⟩).symm L hL)
      have HCH := Lib.hid (fun X (hX : Ext wc X) => pcall_any hE (HP5.out.ext hX) ho hM)
      cases hO : callP E o (toks.drop a) with
      | bad rr er =>
        rw [hO] at HCH
        rw [hO] at hres
        subst hres
        clear HGO HTX0 HTA HTY HWI h32 hO
        go_upto_region 12 with (first | (have hg := hx6; clear hg; go_at_call 117; refine (HNO1.out _ hx6).mono ?_; rintro e w7 ⟨rfl, hx67⟩; have hx7 := hx6.trans hx67; clear hx67) | (go_at_call 117; refine (HNO0.out _ (Ext.refl _)).mono ?_; rintro e w6 ⟨rfl, hx6⟩))
        have HX7 := Lib.hid hx7
        clear d0 d1 d2 d3 z0 z1 z2 z3 f0 f1 f2 f3 p1 pf1
        obtain ⟨_, y0, y1, y2, y3, yf0, yf1, yf2, yf3⟩ := (NX.mv (b := b) HN2.out (Mv.of_ext hx7) (by omega)).nb
        obtain ⟨_, t0, t1, t2, t3, _, _, _, _⟩ := HQ5.out.ext hx7
        go_wp2_with (first | (go_at_call 118; refine (HW1.out _ HX7.out _ (by kernel_rfl)).mono ?_; rintro e w8 ⟨rfl, hx8⟩; obtain ⟨_, u0, u1, u2, u3, _, _, _, _⟩ := (HQ5.out.ext HX7.out).ext hx8) | (go_at_call 161; refine (HCH.out _ (HX7.out.trans hx8)).mono ?_; rintro e w9 ⟨a9, o9, rfl, ha9, hr9, hp9, hm9⟩; have HR9 := Lib.hid hr9; clear hr9))
        exact ⟨rfl, a9, o9, rfl, ha9, HR9.out, hp9, (hmW.trans (Mv.of_ext (HX7.out.trans hx8))).trans hm9⟩
      | ok tt r1 =>
        rw [hO] at HCH
        rw [hO] at hres
        subst hres
        clear HGO HTX0 HTA HTY HWI h32 hO
        go_upto_region 12 with (first | (have hg := hx6; clear hg; go_at_call 117; refine (HNO1.out _ hx6).mono ?_; rintro e w7 ⟨rfl, hx67⟩; have hx7 := hx6.trans hx67; clear hx67) | (go_at_call 117; refine (HNO0.out _ (Ext.refl _)).mono ?_; rintro e w6 ⟨rfl, hx6⟩))
        have HX7 := Lib.hid hx7
        have hs7 := HN2.out.nb.lt
        clear d0 d1 d2 d3 z0 z1 z2 z3 f0 f1 f2 f3 p1 pf1
        obtain ⟨_, y0, y1, y2, y3, yf0, yf1, yf2, yf3⟩ := (NX.mv (b := b) HN2.out (Mv.of_ext hx7) (by omega)).nb
        obtain ⟨_, t0, t1, t2, t3, _, _, _, _⟩ := HQ5.out.ext hx7
        go_wp2_with (first | (go_at_call 118; refine (HW1.out _ HX7.out _ (by kernel_rfl)).mono ?_; rintro e w8 ⟨rfl, hx8⟩; obtain ⟨_, u0, u1, u2, u3, _, _, _, _⟩ := (HQ5.out.ext HX7.out).ext hx8) | (go_at_call 161; refine (HCH.out _ (HX7.out.trans hx8)).mono ?_; rintro e w9 ⟨v9, a9, rfl, ⟨d, rfl, hrep⟩, ha9, hr9, hp9, hm9⟩; have HR9 := Lib.hid hr9; have HP9 := Lib.hid hp9; have HREP := Lib.hid hrep; have hm59 := (Mv.of_ext (b := b) (HX7.out.trans hx8)).trans hm9; obtain ⟨_, j0, j1, j2, j3, jf0, jf1, jf2, jf3⟩ := (HN2.out.mv hm59 (by omega)).nb; clear hr9 hp9 hrep))
        refine bodyPost_ret (v := .agg #[.int .i64 d.k, .int .i64 d.n, .string d.s, .slice d.A d.m d.c]) (by simp [results, Tryz.results128, go_sem, *]) rfl ?_
        have hsz := (show Ext wc _ from (HX7.out.trans hx8)).lt
        exact ⟨_, a9, rfl, ⟨d, rfl, (HREP.out.mono (Q := fun k => W.heap.size + 1 ≤ k) (fun k h1 _ => by omega)).fin (by omega) _ _ _ _⟩, ha9, HR9.out, HP.out.fin HP9.out _ _ _ _, (hmW.trans hm59).fin _ _ _ _⟩
    rw [if_neg hfu] at hres
    have HW1 := Lib.hid (fun X (hX : Ext wc X) L hL => HWI.out X hX functions wl_functions jw_functions false (decide_eq_false (fun h9 => hfu h9.2)).symm L hL)
    by_cases hfi : tx ∈ fields
    · rw [if_pos hfi] at hres
      have hne : tx ≠ [] := fun e => by rw [e] at hfi; revert hfi; decide
      have HW2 := Lib.hid (fun X (hX : Ext wc X) L hL => HWI.out X hX fields wl_fields jw_fields true (decide_eq_true ⟨hne, hfi⟩).symm L hL)
      have hgo1 := HGO.out (HTX0.out hne)
      subst hres
      clear HGO HTX0 HTA HTY HWI h32 hfi hne
      go_upto_region 12 with (first | (have hg := hx6; clear hg; go_at_call 117; refine (HNO1.out _ hx6).mono ?_; rintro e w7 ⟨rfl, hx67⟩; have hx7 := hx6.trans hx67; clear hx67) | (go_at_call 117; refine (HNO0.out _ (Ext.refl _)).mono ?_; rintro e w6 ⟨rfl, hx6⟩))
      have HX7 := Lib.hid hx7
      clear d0 d1 d2 d3 z0 z1 z2 z3 f0 f1 f2 f3 p1 pf1
      obtain ⟨_, y0, y1, y2, y3, yf0, yf1, yf2, yf3⟩ := (NX.mv (b := b) HN2.out (Mv.of_ext hx7) (by omega)).nb
      obtain ⟨_, t0, t1, t2, t3, _, _, _, _⟩ := HQ5.out.ext hx7
      go_upto_region 22 with (first
        | (have hg := hx8; clear hg; go_at_call 118; refine (HW2.out _ (HX7.out.trans hx8) _ (by kernel_rfl)).mono ?_; rintro e w9 ⟨rfl, hx9⟩)
        | (go_at_call 118; refine (HW1.out _ HX7.out _ (by kernel_rfl)).mono ?_; rintro e w8 ⟨rfl, hx8⟩; obtain ⟨_, u0, u1, u2, u3, _, _, _, _⟩ := (HQ5.out.ext HX7.out).ext hx8))
      have HX9 := Lib.hid ((HX7.out.trans hx8).trans hx9)
      obtain ⟨_, j0, j1, j2, j3, jf0, jf1, jf2, jf3⟩ := (NX.mv (b := b) HN2.out (Mv.of_ext HX9.out) (by omega)).nb
      obtain ⟨_, s0, s1, s2, s3, _, _, _, _⟩ := HQ5.out.ext HX9.out
      have l1 := (HPX.out _ HX9.out).c1
      have lf1 := (HPX.out _ HX9.out).fz 1
      have hp1 := (HPX.out _ HX9.out).set1 (a + 1) hgo1
      rw [show (((a + 1 : Nat) : Int)) = (a : Int) + 1 by omega] at hp1
      have HP1 := Lib.hid hp1
      clear hx8 hx9 hx7 hx6 hp1
      go_wp2
      refine bodyPost_ret (v := .agg #[.int .i64 4, .int .i64 0, .string S, .slice none 0 0]) (by simp [results, Tryz.results128, go_sem, *]) rfl ?_
      exact ⟨_, a + 1, rfl, ⟨⟨4, 0, bs tx, none, 0, 0⟩, by rw [HSE.out], Rep.leaf _ _ 4 0 tx⟩, by omega, rfl, HP.out.fin HP1.out _ _ _ _, ((hmW.trans (Mv.of_ext HX9.out)).trans (Mv.set _)).fin _ _ _ _⟩
    rw [if_neg hfi] at hres
    have HW2 := Lib.hid (fun X (hX : Ext wc X) L hL => HWI.out X hX fields wl_fields jw_fields false (decide_eq_false (fun h9 => hfi h9.2)).symm L hL)
    have HF := Lib.hid (fun X (hX : Ext wc X) => pfail_any (HP5.out.ext hX) 20)
    subst hres
    clear HGO HTX0 HTA HTY HWI h32 hfi
    go_upto_region 12 with (first | (have hg := hx6; clear hg; go_at_call 117; refine (HNO1.out _ hx6).mono ?_; rintro e w7 ⟨rfl, hx67⟩; have hx7 := hx6.trans hx67; clear hx67) | (go_at_call 117; refine (HNO0.out _ (Ext.refl _)).mono ?_; rintro e w6 ⟨rfl, hx6⟩))
    have HX7 := Lib.hid hx7
    clear d0 d1 d2 d3 z0 z1 z2 z3 f0 f1 f2 f3 p1 pf1
    obtain ⟨_, y0, y1, y2, y3, yf0, yf1, yf2, yf3⟩ := (NX.mv (b := b) HN2.out (Mv.of_ext hx7) (by omega)).nb
    obtain ⟨_, t0, t1, t2, t3, _, _, _, _⟩ := HQ5.out.ext hx7
    go_wp2_with (first
      | (go_at_call 73; refine (HF.out _ ((HX7.out.trans hx8).trans hx9)).mono ?_; rintro e w10 ⟨rfl, hx10⟩)
      | (have hg := hx8; clear hg; go_at_call 118; refine (HW2.out _ (HX7.out.trans hx8) _ (by kernel_rfl)).mono ?_; rintro e w9 ⟨rfl, hx9⟩)
      | (go_at_call 118; refine (HW1.out _ HX7.out _ (by kernel_rfl)).mono ?_; rintro e w8 ⟨rfl, hx8⟩; obtain ⟨_, u0, u1, u2, u3, _, _, _, _⟩ := (HQ5.out.ext HX7.out).ext hx8))
    have hxe := ((HX7.out.trans hx8).trans hx9).trans hx10
    exact ⟨rfl, a, o, rfl, Nat.le_refl _, rfl, HP5.out.ext hxe, hmW.trans (Mv.of_ext hxe)⟩
end Go.Proofs.YtnpenepdechkjaaGreatDoor

/- The production's expr. -/
namespace Go.Proofs.YtnpenepdechkjaaGreatDoor
open Go Go.RowKit

def CutX (W : World) (v : Value) (s9 : Value) (wx : World) : Prop := s9 = v ∧ Ext W wx
def atM (N b : Nat) (X : World) : Nat := match X.cell? ⟨b, 1, none⟩ with | some (.int _ z) => N - z.toNat | _ => 0
theorem PB.meas {W : World} {b : Nat} {A : Option Addr} {N c : Nat} {toks : List Tk} {a o : Nat} (h : PB W b A N c toks a o) : atM N b W = N - a := by unfold atM; rw [h.c1]; simp
theorem NX.fin {X : World} {g : Nat} {k n k' n' : Int} {S S' : ByteArray} {v v' : Value} (h : NX X g k n S v) : NX (fin4 X g (.int .i64 k') (.int .i64 n') (.string S') v') g k' n' S' v' :=
  (heap_setCell_same _ g 3 _ 31 _ ((heap_setCell_same _ g 2 _ 31 _ ((heap_setCell_same _ g 1 _ 31 _ (heap_setCell_same X g 0 _ 31 _ h)))))).trans rfl
theorem fin4_other (X : World) (g k : Nat) (v0 v1 v2 v3 : Value) (h : k ≠ g) : (fin4 X g v0 v1 v2 v3).heap[k]? = X.heap[k]? := by
  unfold fin4
  rw [heap_setCell_other _ _ _ _ h, heap_setCell_other _ _ _ _ h, heap_setCell_other _ _ _ _ h, heap_setCell_other _ _ _ _ h]
theorem fin4_size (X : World) (g : Nat) (v0 v1 v2 v3 : Value) : (fin4 X g v0 v1 v2 v3).heap.size = X.heap.size := by simp [fin4]
def LpRel (W : World) (b : Nat) (A : Option Addr) (N c : Nat) (toks : List Tk) (a o : Nat) (E : Nat → Nat → List Tk → PR Tr) (lv : Nat) (RES : PR Tr) (g2 g7 : Nat) (X : World) : Prop :=
  ∃ (a' gf : Nat) (n : Nd) (t : Tr), a ≤ a' ∧ N - a' ≤ gf ∧ PB X b A N c toks a' o ∧ NX X g7 n.k n.n n.s (.slice n.A n.m n.c) ∧ Rep X (fun k => W.heap.size + 1 ≤ k ∧ k ≠ g7) n t ∧ NX X g2 0 0 ⟨#[]⟩ (.slice none 0 0) ∧ loopP E lv o gf t (toks.drop a') = RES ∧ Mv b W X
def CutN (W : World) (b : Nat) (A : Option Addr) (N c : Nat) (toks : List Tk) (a' o : Nat) (g2 g7 : Nat) (S : ByteArray) (t tb : Tr) (r3 : List Tk) (X : World) : Prop :=
  ∃ (a6 g9 : Nat) (n d2 : Nd), a' < a6 ∧ r3 = toks.drop a6 ∧ PB X b A N c toks a6 o ∧ NX X g7 6 0 S (.slice (some ⟨g9, 0, none⟩) 2 2) ∧ KR X (W.heap.size + 1) g7 (.slice (some ⟨g9, 0, none⟩) 2 2) [n, d2] [t, tb] ∧ NX X g2 0 0 ⟨#[]⟩ (.slice none 0 0) ∧ Mv b W X
theorem Mv.finG {W X : World} {b g : Nat} (h : Mv b W X) (hg : W.heap.size ≤ g) (v0 v1 v2 v3 : Value) : Mv b W (fin4 X g v0 v1 v2 v3) :=
  (((h.setNew (p := ⟨g, 0, none⟩) hg _).setNew (p := ⟨g, 1, none⟩) hg _).setNew (p := ⟨g, 2, none⟩) hg _).setNew (p := ⟨g, 3, none⟩) hg _
theorem lvOf_nil : lvOf [] = 0 := by decide
set_option maxHeartbeats 8000000 in
set_option maxRecDepth 100000 in
theorem pexpr_step {E : Nat → Nat → List Tk → PR Tr} {M : Nat} (hE : EC E M) : EC (stepP E) (M + 1) := by
  intro W b A N c toks a o lv h ho hl1 hl8 hms
  have HP := Lib.hid h
  have HLEN := Lib.hid h.len
  have hNa : a < N := h.at_
  obtain ⟨RES, hres⟩ : ∃ R, stepP E lv o (toks.drop a) = R := ⟨_, rfl⟩
  rw [hres]
  unfold stepP at hres
  obtain ⟨t, ht⟩ : ∃ t, hd (toks.drop a) = t := ⟨_, rfl⟩
  obtain ⟨S, hS⟩ : ∃ S, S = bs t.tx := ⟨_, rfl⟩
  have HN := Lib.hid (fun X (hX : Ext W X) => pnext_any (h.ext hX) S (by rw [ht]; exact hS))
  have HSE := Lib.hid hS
  have HT := Lib.hid ht
  rw [ht] at hres
  have HX0 := Lib.hid ((Ext.refl W).alloc (.cells #[.int .i64 0, .int .i64 0, .string ⟨#[]⟩, .slice none 0 0] 31))
  by_cases hu : lv = 3 ∧ t.tx = wNot ∨ lv = 7 ∧ t.tx = wMinus
  · rw [if_pos hu] at hres
    rcases hu with ⟨rfl, hx⟩ | ⟨rfl, hx⟩
    · have hb : (S.toList == [110, 111, 116]) = true := by rw [HSE.out, bs_list, hx]; decide
      have hsne : t.tx ≠ [] := by rw [hx]; decide
      have HO := Lib.hid (fun X (hX : Ext W X) => popens_any (h.ext hX) ho t.tx S hS hsne)
      cases hO : opensP t.tx o (toks.drop a) with
      | bad rr er =>
        rw [hO] at HO
        rw [hO, PR.bind_bad] at hres
        subst hres
        clear h ht hS hx hsne hO
        go_enter Tryz.func87, Tryz.ntmps87
        go_wp2_with (first
        | (have hg := hx2; clear hg; go_at_call 77; refine (HN.out _ (HX0.out.trans hx2)).mono ?_; rintro e w3 ⟨rfl, hx3⟩; have hxa := (HX0.out.trans hx2).trans hx3)
        | (go_at_call 77; refine (HN.out _ HX0.out).mono ?_; rintro e w2 ⟨rfl, hx2⟩)
        | (go_at_call 127; refine (HO.out _ hxa).mono ?_; rintro e w4 ⟨a4, o4, rfl, ha4, hr4, hp4, hm4⟩; have HR4 := Lib.hid hr4; clear hr4))
        exact ⟨rfl, a4, o4, rfl, ha4, HR4.out, hp4, (Mv.of_ext hxa).trans hm4⟩
      | ok u r1 =>
        rw [hO] at HO
        rw [hO, PR.bind_ok] at hres
        have ho11 : o + 1 ≤ 12 := by have := (opens_ok hO).2.1; omega
        have HO1 := Lib.hid (opens_ok hO).1
        cases hA : E 3 (o + 1) r1 with
        | bad rr er =>
          have HA := Lib.hid hA
          rw [hA, PR.bind_bad] at hres
          subst hres
          clear h ht hS hx hsne hO hA
          go_enter Tryz.func87, Tryz.ntmps87
          go_wp2_with (first
          | (have hg := hx2; clear hg; go_at_call 77; refine (HN.out _ (HX0.out.trans hx2)).mono ?_; rintro e w3 ⟨rfl, hx3⟩; have hxa := (HX0.out.trans hx2).trans hx3)
          | (go_at_call 77; refine (HN.out _ HX0.out).mono ?_; rintro e w2 ⟨rfl, hx2⟩)
          | (go_at_call 127; refine (HO.out _ hxa).mono ?_; rintro e w4 ⟨v4, a4, rfl, rfl, ha4, hr4, hp4, hm4⟩; have HR4 := Lib.hid hr4; have HP4 := Lib.hid hp4; clear hr4 hp4)
          | (go_at_call 87; have h9 : Calls Tryz.prog 87 #[.pointer (some ⟨b, 0, none⟩), .int .i64 3] w4 (GP b A N c toks a4 (o + 1) (RT w4.heap.size) w4 (E 3 (o + 1) (toks.drop a4))) := hE w4 b A N c toks a4 (o + 1) 3 HP4.out ho11 (by omega) (by omega) (by have := drop_at (by rw [← HLEN.out]; exact HP4.out.at_) (HO1.out.symm.trans HR4.out); omega); rw [← HR4.out, HA.out] at h9; refine h9.mono ?_; clear h9; rintro e w5 ⟨a5, o5, rfl, ha5, hr5, hp5, hm5⟩; have HR5 := Lib.hid hr5; clear hr5))
          exact ⟨rfl, a5, o5, rfl, by omega, HR5.out, hp5, ((Mv.of_ext hxa).trans hm4).trans hm5⟩
        | ok ta r2 =>
          have HA := Lib.hid hA
          rw [hA, PR.bind_ok] at hres
          subst hres
          clear h ht hS hx hsne hO hA
          go_enter Tryz.func87, Tryz.ntmps87
          go_upto_region 6 with (first
          | (have hg := hx2; clear hg; go_at_call 77; refine (HN.out _ (HX0.out.trans hx2)).mono ?_; rintro e w3 ⟨rfl, hx3⟩; have hxa := (HX0.out.trans hx2).trans hx3)
          | (go_at_call 77; refine (HN.out _ HX0.out).mono ?_; rintro e w2 ⟨rfl, hx2⟩)
          | (go_at_call 127; refine (HO.out _ hxa).mono ?_; rintro e w4 ⟨v4, a4, rfl, rfl, ha4, hr4, hp4, hm4⟩; have HR4 := Lib.hid hr4; have HP4 := Lib.hid hp4; clear hr4 hp4)
          | (go_at_call 87; have h9 : Calls Tryz.prog 87 #[.pointer (some ⟨b, 0, none⟩), .int .i64 3] w4 (GP b A N c toks a4 (o + 1) (RT w4.heap.size) w4 (E 3 (o + 1) (toks.drop a4))) := hE w4 b A N c toks a4 (o + 1) 3 HP4.out ho11 (by omega) (by omega) (by have := drop_at (by rw [← HLEN.out]; exact HP4.out.at_) (HO1.out.symm.trans HR4.out); omega); rw [← HR4.out, HA.out] at h9; refine h9.mono ?_; clear h9; rintro e w5 ⟨v5, a5, rfl, ⟨d, rfl, hrep⟩, ha5, hr5, hp5, hm5⟩; have HR5 := Lib.hid hr5; have HP5 := Lib.hid hp5; have HREP := Lib.hid hrep; clear hr5 hp5 hrep))
          have hbW := HP.out.lt
          have h1s : W.heap.size + 1 ≤ w4.heap.size := by have h1 := (hx2.trans hx3).lt; have h2 := hm4.size; simp at h1; omega
          have h5s := hm5.size
          have hg2 : NX w5 W.heap.size 0 0 ⟨#[]⟩ (.slice none 0 0) := NX.mv (b := b) (show NX (W.alloc (.cells #[.int .i64 0, .int .i64 0, .string ⟨#[]⟩, .slice none 0 0] 31)) W.heap.size 0 0 ⟨#[]⟩ (.slice none 0 0) from heap_alloc_new _ _) (((Mv.of_ext (hx2.trans hx3)).trans hm4).trans hm5) (by omega)
          have hkr := KR.lit (X := w5) (base := W.heap.size + 1) (av := w5.heap.size + 1) [d] [ta] #[.int .i64 d.k, .int .i64 d.n, .string d.s, .slice d.A d.m d.c] rfl rfl (by simp) (fun i e t' h1 h2 => by
            have : i = 0 := by
              have := (List.getElem?_eq_some_iff.1 h1).1
              simpa using this
            subst this
            simp only [List.getElem?_cons_zero, Option.some.injEq] at h1 h2
            subst h1 h2
            exact HREP.out.mono fun k hk hk2 => by omega) (by omega) (by omega)
          obtain ⟨X1, hX1⟩ : ∃ X1, X1 = w5.alloc (.cells #[.int .i64 d.k, .int .i64 d.n, .string d.s, .slice d.A d.m d.c] 31) := ⟨_, rfl⟩
          obtain ⟨X2, hX2⟩ : ∃ X2, X2 = X1.alloc (.cells #[.int .i64 5, .int .i64 0, .string S, .slice (some ⟨w5.heap.size, 0, none⟩) 1 1] 31) := ⟨_, rfl⟩
          rw [← hX1] at hkr ⊢
          have hs1 : X1.heap.size = w5.heap.size + 1 := by rw [hX1]; simp
          have hx51 : Ext w5 X1 := by rw [hX1]; exact (Ext.refl _).alloc _
          have hx12 : Ext X1 X2 := by rw [hX2]; exact (Ext.refl _).alloc _
          have hn6 : NX X2 (w5.heap.size + 1) 5 0 S (.slice (some ⟨w5.heap.size, 0, none⟩) 1 1) := by rw [hX2, ← hs1]; exact heap_alloc_new _ _
          rw [← hX2]
          have hkr2 := hkr.mv (Mv.of_ext hx12 : Mv b _ _) (by omega)
          obtain ⟨A9, c9', e9', hrep9⟩ := hkr2.rep 5 0 t.tx
          simp only [List.length_cons, List.length_nil, Nat.zero_add, Value.slice.injEq] at e9' hrep9
          obtain ⟨rfl, _, rfl⟩ := e9'
          have HREP9 := Lib.hid hrep9
          obtain ⟨_, s0, s1, s2, s3, _, _, _, _⟩ := hn6.nb
          have hm52 : Mv b w5 X2 := Mv.of_ext (hx51.trans hx12)
          obtain ⟨_, j0, j1, j2, j3, jf0, jf1, jf2, jf3⟩ := (hg2.mv hm52 (by omega)).nb
          have HP2 := Lib.hid (HP5.out.ext (hx51.trans hx12))
          have c2 := HP2.out.c2
          have f2 := HP2.out.fz 2
          have hw : IntKind.i64.wrap (((o : Int) + 1) - 1) = (o : Int) := by rw [IntWalk.i64_in _ (by omega)]; omega
          rw [show ((o + 1 : Nat) : Int) = (o : Int) + 1 by omega] at c2
          have hmW := (((Mv.of_ext hxa).trans hm4).trans hm5).trans hm52
          have hb2 : ¬ b = W.heap.size := by omega
          have hb6 : ¬ b = w5.heap.size + 1 := by have := HP5.out.lt; omega
          have h26 : ¬ W.heap.size = w5.heap.size + 1 := by omega
          have HA5 := Lib.hid (show a ≤ a5 by omega)
          clear hX1 hX2 hkr hkr2 hs1 hx51 hx12 hn6 hg2 hrep9 hm52 h5s h1s hx2 hx3 hm4 hm5
          go_wp2
          refine bodyPost_ret (v := .agg #[.int .i64 5, .int .i64 0, .string S, .slice (some ⟨w5.heap.size, 0, none⟩) 1 1]) (by simp [results, Tryz.results87, go_sem, *]) rfl ?_
          exact ⟨_, a5, rfl, ⟨⟨5, 0, bs t.tx, some ⟨w5.heap.size, 0, none⟩, 1, 1⟩, by rw [HSE.out], ((HREP9.out.mono (Q := fun k => W.heap.size + 1 ≤ k) (fun k h1 _ => h1.1)).mv (Mv.set (b := b) (i := 2) (.int .i64 (o : Int))) (fun k h1 e => by omega)).fin (by omega) _ _ _ _⟩, HA5.out, HR5.out, HP.out.fin (HP2.out.set2 o) _ _ _ _, (hmW.trans (Mv.set _)).fin _ _ _ _⟩
    · have hb : (S.toList == [45]) = true := by rw [HSE.out, bs_list, hx]; decide
      have hsne : t.tx ≠ [] := by rw [hx]; decide
      have HO := Lib.hid (fun X (hX : Ext W X) => popens_any (h.ext hX) ho t.tx S hS hsne)
      cases hO : opensP t.tx o (toks.drop a) with
      | bad rr er =>
        rw [hO] at HO
        rw [hO, PR.bind_bad] at hres
        subst hres
        clear h ht hS hx hsne hO
        go_enter Tryz.func87, Tryz.ntmps87
        go_wp2_with (first
        | (have hg := hx2; clear hg; go_at_call 77; refine (HN.out _ (HX0.out.trans hx2)).mono ?_; rintro e w3 ⟨rfl, hx3⟩; have hxa := (HX0.out.trans hx2).trans hx3)
        | (go_at_call 77; refine (HN.out _ HX0.out).mono ?_; rintro e w2 ⟨rfl, hx2⟩)
        | (go_at_call 127; refine (HO.out _ hxa).mono ?_; rintro e w4 ⟨a4, o4, rfl, ha4, hr4, hp4, hm4⟩; have HR4 := Lib.hid hr4; clear hr4))
        exact ⟨rfl, a4, o4, rfl, ha4, HR4.out, hp4, (Mv.of_ext hxa).trans hm4⟩
      | ok u r1 =>
        rw [hO] at HO
        rw [hO, PR.bind_ok] at hres
        have ho11 : o + 1 ≤ 12 := by have := (opens_ok hO).2.1; omega
        have HO1 := Lib.hid (opens_ok hO).1
        cases hA : E 7 (o + 1) r1 with
        | bad rr er =>
          have HA := Lib.hid hA
          rw [hA, PR.bind_bad] at hres
          subst hres
          clear h ht hS hx hsne hO hA
          go_enter Tryz.func87, Tryz.ntmps87
          go_wp2_with (first
          | (have hg := hx2; clear hg; go_at_call 77; refine (HN.out _ (HX0.out.trans hx2)).mono ?_; rintro e w3 ⟨rfl, hx3⟩; have hxa := (HX0.out.trans hx2).trans hx3)
          | (go_at_call 77; refine (HN.out _ HX0.out).mono ?_; rintro e w2 ⟨rfl, hx2⟩)
          | (go_at_call 127; refine (HO.out _ hxa).mono ?_; rintro e w4 ⟨v4, a4, rfl, rfl, ha4, hr4, hp4, hm4⟩; have HR4 := Lib.hid hr4; have HP4 := Lib.hid hp4; clear hr4 hp4)
          | (go_at_call 87; have h9 : Calls Tryz.prog 87 #[.pointer (some ⟨b, 0, none⟩), .int .i64 7] w4 (GP b A N c toks a4 (o + 1) (RT w4.heap.size) w4 (E 7 (o + 1) (toks.drop a4))) := hE w4 b A N c toks a4 (o + 1) 7 HP4.out ho11 (by omega) (by omega) (by have := drop_at (by rw [← HLEN.out]; exact HP4.out.at_) (HO1.out.symm.trans HR4.out); omega); rw [← HR4.out, HA.out] at h9; refine h9.mono ?_; clear h9; rintro e w5 ⟨a5, o5, rfl, ha5, hr5, hp5, hm5⟩; have HR5 := Lib.hid hr5; clear hr5))
          exact ⟨rfl, a5, o5, rfl, by omega, HR5.out, hp5, ((Mv.of_ext hxa).trans hm4).trans hm5⟩
        | ok ta r2 =>
          have HA := Lib.hid hA
          rw [hA, PR.bind_ok] at hres
          subst hres
          clear h ht hS hx hsne hO hA
          go_enter Tryz.func87, Tryz.ntmps87
          go_upto_region 6 with (first
          | (have hg := hx2; clear hg; go_at_call 77; refine (HN.out _ (HX0.out.trans hx2)).mono ?_; rintro e w3 ⟨rfl, hx3⟩; have hxa := (HX0.out.trans hx2).trans hx3)
          | (go_at_call 77; refine (HN.out _ HX0.out).mono ?_; rintro e w2 ⟨rfl, hx2⟩)
          | (go_at_call 127; refine (HO.out _ hxa).mono ?_; rintro e w4 ⟨v4, a4, rfl, rfl, ha4, hr4, hp4, hm4⟩; have HR4 := Lib.hid hr4; have HP4 := Lib.hid hp4; clear hr4 hp4)
          | (go_at_call 87; have h9 : Calls Tryz.prog 87 #[.pointer (some ⟨b, 0, none⟩), .int .i64 7] w4 (GP b A N c toks a4 (o + 1) (RT w4.heap.size) w4 (E 7 (o + 1) (toks.drop a4))) := hE w4 b A N c toks a4 (o + 1) 7 HP4.out ho11 (by omega) (by omega) (by have := drop_at (by rw [← HLEN.out]; exact HP4.out.at_) (HO1.out.symm.trans HR4.out); omega); rw [← HR4.out, HA.out] at h9; refine h9.mono ?_; clear h9; rintro e w5 ⟨v5, a5, rfl, ⟨d, rfl, hrep⟩, ha5, hr5, hp5, hm5⟩; have HR5 := Lib.hid hr5; have HP5 := Lib.hid hp5; have HREP := Lib.hid hrep; clear hr5 hp5 hrep))
          have hbW := HP.out.lt
          have h1s : W.heap.size + 1 ≤ w4.heap.size := by have h1 := (hx2.trans hx3).lt; have h2 := hm4.size; simp at h1; omega
          have h5s := hm5.size
          have hg2 : NX w5 W.heap.size 0 0 ⟨#[]⟩ (.slice none 0 0) := NX.mv (b := b) (show NX (W.alloc (.cells #[.int .i64 0, .int .i64 0, .string ⟨#[]⟩, .slice none 0 0] 31)) W.heap.size 0 0 ⟨#[]⟩ (.slice none 0 0) from heap_alloc_new _ _) (((Mv.of_ext (hx2.trans hx3)).trans hm4).trans hm5) (by omega)
          have hkr := KR.lit (X := w5) (base := W.heap.size + 1) (av := w5.heap.size + 1) [d] [ta] #[.int .i64 d.k, .int .i64 d.n, .string d.s, .slice d.A d.m d.c] rfl rfl (by simp) (fun i e t' h1 h2 => by
            have : i = 0 := by
              have := (List.getElem?_eq_some_iff.1 h1).1
              simpa using this
            subst this
            simp only [List.getElem?_cons_zero, Option.some.injEq] at h1 h2
            subst h1 h2
            exact HREP.out.mono fun k hk hk2 => by omega) (by omega) (by omega)
          obtain ⟨X1, hX1⟩ : ∃ X1, X1 = w5.alloc (.cells #[.int .i64 d.k, .int .i64 d.n, .string d.s, .slice d.A d.m d.c] 31) := ⟨_, rfl⟩
          obtain ⟨X2, hX2⟩ : ∃ X2, X2 = X1.alloc (.cells #[.int .i64 5, .int .i64 0, .string S, .slice (some ⟨w5.heap.size, 0, none⟩) 1 1] 31) := ⟨_, rfl⟩
          rw [← hX1] at hkr ⊢
          have hs1 : X1.heap.size = w5.heap.size + 1 := by rw [hX1]; simp
          have hx51 : Ext w5 X1 := by rw [hX1]; exact (Ext.refl _).alloc _
          have hx12 : Ext X1 X2 := by rw [hX2]; exact (Ext.refl _).alloc _
          have hn6 : NX X2 (w5.heap.size + 1) 5 0 S (.slice (some ⟨w5.heap.size, 0, none⟩) 1 1) := by rw [hX2, ← hs1]; exact heap_alloc_new _ _
          rw [← hX2]
          have hkr2 := hkr.mv (Mv.of_ext hx12 : Mv b _ _) (by omega)
          obtain ⟨A9, c9', e9', hrep9⟩ := hkr2.rep 5 0 t.tx
          simp only [List.length_cons, List.length_nil, Nat.zero_add, Value.slice.injEq] at e9' hrep9
          obtain ⟨rfl, _, rfl⟩ := e9'
          have HREP9 := Lib.hid hrep9
          obtain ⟨_, s0, s1, s2, s3, _, _, _, _⟩ := hn6.nb
          have hm52 : Mv b w5 X2 := Mv.of_ext (hx51.trans hx12)
          obtain ⟨_, j0, j1, j2, j3, jf0, jf1, jf2, jf3⟩ := (hg2.mv hm52 (by omega)).nb
          have HP2 := Lib.hid (HP5.out.ext (hx51.trans hx12))
          have c2 := HP2.out.c2
          have f2 := HP2.out.fz 2
          have hw : IntKind.i64.wrap (((o : Int) + 1) - 1) = (o : Int) := by rw [IntWalk.i64_in _ (by omega)]; omega
          rw [show ((o + 1 : Nat) : Int) = (o : Int) + 1 by omega] at c2
          have hmW := (((Mv.of_ext hxa).trans hm4).trans hm5).trans hm52
          have hb2 : ¬ b = W.heap.size := by omega
          have hb6 : ¬ b = w5.heap.size + 1 := by have := HP5.out.lt; omega
          have h26 : ¬ W.heap.size = w5.heap.size + 1 := by omega
          have HA5 := Lib.hid (show a ≤ a5 by omega)
          clear hX1 hX2 hkr hkr2 hs1 hx51 hx12 hn6 hg2 hrep9 hm52 h5s h1s hx2 hx3 hm4 hm5
          go_wp2
          refine bodyPost_ret (v := .agg #[.int .i64 5, .int .i64 0, .string S, .slice (some ⟨w5.heap.size, 0, none⟩) 1 1]) (by simp [results, Tryz.results87, go_sem, *]) rfl ?_
          exact ⟨_, a5, rfl, ⟨⟨5, 0, bs t.tx, some ⟨w5.heap.size, 0, none⟩, 1, 1⟩, by rw [HSE.out], ((HREP9.out.mono (Q := fun k => W.heap.size + 1 ≤ k) (fun k h1 _ => h1.1)).mv (Mv.set (b := b) (i := 2) (.int .i64 (o : Int))) (fun k h1 e => by omega)).fin (by omega) _ _ _ _⟩, HA5.out, HR5.out, HP.out.fin (HP2.out.set2 o) _ _ _ _, (hmW.trans (Mv.set _)).fin _ _ _ _⟩
  · rw [if_neg hu] at hres
    have HRES := Lib.hid hres
    have hN3 : lv = 3 → (S.toList == [110, 111, 116]) = false := fun e => by rw [HSE.out, bs_list]; exact beq_eq_false_iff_ne.2 (fun h9 => hu (.inl ⟨e, h9⟩))
    have hN7 : lv = 7 → (S.toList == [45]) = false := fun e => by rw [HSE.out, bs_list]; exact beq_eq_false_iff_ne.2 (fun h9 => hu (.inr ⟨e, h9⟩))
    have HN3 := Lib.hid hN3
    have HN7 := Lib.hid hN7
    clear h ht hS hres hu hN3 hN7
    go_enter Tryz.func87, Tryz.ntmps87
    go_upto_region 1 with (fail)
    have hlt : W.heap.size < (W.alloc (.cells #[.int .i64 0, .int .i64 0, .string ⟨#[]⟩, .slice none 0 0] 31)).heap.size := by simp
    have hn2 : NX (W.alloc (.cells #[.int .i64 0, .int .i64 0, .string ⟨#[]⟩, .slice none 0 0] 31)) W.heap.size 0 0 ⟨#[]⟩ (.slice none 0 0) := heap_alloc_new _ _
    have HN2 := Lib.hid hn2
    have HLT := Lib.hid hlt
    clear hn2 hlt
    generalize W.alloc (.cells #[.int .i64 0, .int .i64 0, .string ⟨#[]⟩, .slice none 0 0] 31) = w1 at *
    have hlvI : (lv : Int) ≤ 8 := by omega
    have hlv0 : 0 ≤ (lv : Int) := by omega
    go_cut [9] (fun s9 wx => CutX w1 (.bool false) s9 wx)
    case first =>
      by_cases h3 : lv = 3
      · have e3 : ((lv : Int) == 3) = true := by simp [h3]
        have hb := HN3.out h3
        clear h3
        go_wp2_with (first | (go_at_call 77; refine (HN.out _ HX0.out).mono ?_; rintro e w2 ⟨rfl, hx2⟩))
        go_meet
        case rel => exact ⟨rfl, hx2⟩
      · have e3 : ((lv : Int) == 3) = false := by simpa using (show ¬ (lv : Int) = 3 by omega)
        clear h3
        go_wp2_with fail
        go_meet
        case rel => exact ⟨rfl, Ext.refl _⟩
    case rest =>
      obtain ⟨rfl, hx1⟩ := hcut
      obtain ⟨w2, hw2⟩ : ∃ w2, w2 = wc := ⟨_, rfl⟩
      rw [← hw2] at hx1 ⊢
      clear hw2
      have HX1 := Lib.hid (HX0.out.trans hx1)
      go_upto_region 2 with (fail)
      go_cut [9] (fun s9 wx => CutX w2 (.bool false) s9 wx)
      case first =>
        by_cases h7 : lv = 7
        · have e3 : ((lv : Int) == 7) = true := by simp [h7]
          have hb := HN7.out h7
          clear h7 hx1
          go_wp2_with (first | (go_at_call 77; refine (HN.out _ HX1.out).mono ?_; rintro e w3 ⟨rfl, hx3⟩))
          go_meet
          case rel => exact ⟨rfl, hx3⟩
        · have e3 : ((lv : Int) == 7) = false := by simpa using (show ¬ (lv : Int) = 7 by omega)
          clear h7 hx1
          go_wp2_with fail
          go_meet
          case rel => exact ⟨rfl, Ext.refl _⟩
      case rest =>
        obtain ⟨rfl, hx2⟩ := hcut
        obtain ⟨w3, hw3⟩ : ∃ w3, w3 = wc := ⟨_, rfl⟩
        rw [← hw3] at hx2 ⊢
        clear hw3
        have HX3 := Lib.hid (HX1.out.trans hx2)
        have HN23 := Lib.hid (NX.mv (b := b) HN2.out (Mv.of_ext (hx1.trans hx2)) (by have := HP.out.lt; omega))
        have hres := HRES.out
        clear hx1 hx2 HX1 HX0 HN2 HRES HN3 HN7
        go_upto_region 8 with (fail)
        by_cases h8 : lv = 8
        · rw [if_pos h8] at hres
          have e8 : ((lv : Int) == 8) = true := by simp [h8]
          have HPR := Lib.hid (pprim_any hE (HP.out.ext HX3.out) ho (by omega))
          clear h8
          cases hO : primP E o (toks.drop a) with
          | bad rr er =>
            rw [hO] at HPR
            rw [hO] at hres
            subst hres
            clear hO
            go_wp2_with (first | (go_at_call 128; refine (HPR.out).mono ?_; rintro e w9 ⟨a9, o9, rfl, ha9, hr9, hp9, hm9⟩; have HR9 := Lib.hid hr9; clear hr9))
            exact ⟨rfl, a9, o9, rfl, ha9, HR9.out, hp9, (Mv.of_ext HX3.out).trans hm9⟩
          | ok tt r1 =>
            rw [hO] at HPR
            rw [hO] at hres
            subst hres
            have HS7 := Lib.hid HN23.out.nb.lt
            have HBW := Lib.hid HP.out.lt
            clear hO
            go_wp2_with (first | (go_at_call 128; refine (HPR.out).mono ?_; rintro e w9 ⟨v9, a9, rfl, ⟨d, rfl, hrep⟩, ha9, hr9, hp9, hm9⟩; have HR9 := Lib.hid hr9; have HP9 := Lib.hid hp9; have HREP := Lib.hid hrep; obtain ⟨_, j0, j1, j2, j3, jf0, jf1, jf2, jf3⟩ := (HN23.out.mv hm9 (by have := HBW.out; omega)).nb; clear hr9 hp9 hrep))
            refine bodyPost_ret (v := .agg #[.int .i64 d.k, .int .i64 d.n, .string d.s, .slice d.A d.m d.c]) (by simp [results, Tryz.results87, go_sem, *]) rfl ?_
            have h7s := HS7.out
            exact ⟨_, a9, rfl, ⟨d, rfl, (HREP.out.mono (Q := fun k => W.heap.size + 1 ≤ k) (fun k h1 _ => by omega)).fin (by omega) _ _ _ _⟩, ha9, HR9.out, HP.out.fin HP9.out _ _ _ _, ((Mv.of_ext HX3.out).trans hm9).fin _ _ _ _⟩
        · rw [if_neg h8] at hres
          have e8 : ((lv : Int) == 8) = false := by simpa using (show ¬ (lv : Int) = 8 by omega)
          have hE0 := hE w3 b A N c toks a o (lv + 1) (HP.out.ext HX3.out) ho (by omega) (by omega) (by omega)
          rw [show (((lv + 1 : Nat)) : Int) = (lv : Int) + 1 by omega] at hE0
          have h8' : lv ≤ 7 := by omega
          clear h8
          cases hA : E (lv + 1) o (toks.drop a) with
          | bad rr er =>
            rw [hA] at hE0
            rw [hA, PR.bind_bad] at hres
            subst hres
            have HE0 := Lib.hid hE0
            clear hA hE0
            go_wp2_with (first | (go_at_call 87; refine (HE0.out).mono ?_; rintro e w9 ⟨a9, o9, rfl, ha9, hr9, hp9, hm9⟩; have HR9 := Lib.hid hr9; clear hr9))
            exact ⟨rfl, a9, o9, rfl, ha9, HR9.out, hp9, (Mv.of_ext HX3.out).trans hm9⟩
          | ok ta r2 =>
            rw [hA] at hE0
            rw [hA, PR.bind_ok] at hres
            have HE0 := Lib.hid hE0
            have HRES := Lib.hid hres
            clear hA hE0 hres
            go_wp2_with (first | (go_at_call 87; refine (HE0.out).mono ?_; rintro e w9 ⟨v9, a9, rfl, ⟨d, rfl, hrep⟩, ha9, hr9, hp9, hm9⟩; have HR9 := Lib.hid hr9; have HP9 := Lib.hid hp9; have HREP := Lib.hid hrep; clear hr9 hp9 hrep))
            have hbW := HP.out.lt
            have hx3s := HX3.out.lt
            have hlen9 : N - a9 ≤ r2.length := by rw [HR9.out, List.length_drop, ← HLEN.out]; exact Nat.le_refl _
            have hw3s : W.heap.size + 1 ≤ w3.heap.size := HN23.out.nb.lt
            have hstart : LpRel W b A N c toks a o E lv RES W.heap.size w9.heap.size (w9.alloc (.cells #[.int .i64 d.k, .int .i64 d.n, .string d.s, .slice d.A d.m d.c] 31)) :=
              ⟨a9, r2.length, d, ta, ha9, hlen9, HP9.out.ext ((Ext.refl _).alloc _), heap_alloc_new _ _, ((HREP.out.mono (Q := fun k => W.heap.size + 1 ≤ k ∧ k < w9.heap.size) (fun k h1 h2 => ⟨by omega, h2⟩)).ext ((Ext.refl _).alloc _)).mono (fun k h1 _ => ⟨h1.1, by omega⟩),
                HN23.out.mv (hm9.trans (Mv.of_ext ((Ext.refl _).alloc _))) (by omega), by rw [← HR9.out]; exact HRES.out, ((Mv.of_ext HX3.out).trans hm9).trans (Mv.of_ext ((Ext.refl _).alloc _))⟩
            have HST := Lib.hid hstart
            have hg7 : W.heap.size < w9.heap.size := by have := hm9.size; omega
            have HG7 := Lib.hid hg7
            have HBW := Lib.hid hbW
            have hb7 : ¬ b = w9.heap.size := by omega
            have hb2 : ¬ b = W.heap.size := by omega
            have h27 : ¬ W.heap.size = w9.heap.size := by omega
            clear hstart hlen9 hw3s hx3s hbW HRES HREP HP9 HR9 hm9 HE0 HN23 ha9 hg7 HSE HT HN
            generalize w9.heap.size = g7 at *
            go_loopw [8] (fun _ X => LpRel W b A N c toks a o E lv RES W.heap.size g7 X) (fun _ X => atM N b X)
            case atStart => exact HST.out
            case round =>
              clear HST
              obtain ⟨a', gf, n, tn, haa, hgf, hpb, hnx, hrep, hn2, hres, hmv⟩ := hrel
              have HPB := Lib.hid hpb
              have HNX := Lib.hid hnx
              have HREP := Lib.hid hrep
              have HN2 := Lib.hid hn2
              have HMV := Lib.hid hmv
              obtain ⟨t', ht'⟩ : ∃ t, hd (toks.drop a') = t := ⟨_, rfl⟩
              obtain ⟨S', hS'⟩ : ∃ S, S = bs t'.tx := ⟨_, rfl⟩
              have HN := Lib.hid (fun X (hX : Ext wr X) => pnext_any (hpb.ext hX) S' (by rw [ht']; exact hS'))
              have HLV := Lib.hid (fun X => plevel_any t'.tx S' hS' X)
              have hat := hpb.at_
              obtain ⟨g1, rfl⟩ : ∃ g1, gf = g1 + 1 := ⟨gf - 1, by omega⟩
              rw [loopP, ht', (hd_mem hpb).2.2] at hres
              by_cases hl : lvOf t'.tx = lv
              · rw [if_pos hl] at hres
                rw [hl] at HLV
                have hne : t'.tx ≠ [] := fun e => by rw [e, lvOf_nil] at hl; omega
                have hgo : a' + 1 < N := hpb.go (hpb.txne (s := t'.tx) (by rw [ht']) hne)
                have HSE := Lib.hid hS'
                have hE5 : ∀ X, PB X b A N c toks (a' + 1) o → Calls Tryz.prog 87 #[.pointer (some ⟨b, 0, none⟩), .int .i64 ((lv : Int) + 1)] X (GP b A N c toks (a' + 1) o (RT X.heap.size) X (E (lv + 1) o (toks.drop (a' + 1)))) := fun X hX => by
                  have := hE X b A N c toks (a' + 1) o (lv + 1) hX ho (by omega) (by omega) (by omega)
                  rwa [show (((lv + 1 : Nat)) : Int) = (lv : Int) + 1 by omega] at this
                have HE5 := Lib.hid hE5
                have haJ : (a' : Int) ≤ 100000 := by have := hpb.nb; omega
                clear hpb hnx hrep hn2 hmv ht' hS' hl hne hE5
                cases hB : E (lv + 1) o (toks.drop (a' + 1)) with
                | bad rr er =>
                  rw [hB, PR.bind_bad] at hres
                  subst hres
                  have hE6 := HE5.out
                  rw [hB] at hE6
                  have HE6 := Lib.hid hE6
                  clear hB hE6
                  go_upto_region 13 with (first
                    | (have hg := hx6; clear hg; go_at_call 77; refine (HN.out _ (hx5.trans hx6)).mono ?_; rintro e w7 ⟨rfl, hx7⟩)
                    | (go_at_call 77; refine (HN.out _ (Ext.refl _)).mono ?_; rintro e w5 ⟨rfl, hx5⟩)
                    | (go_at_call 106; refine (HLV.out _).mono ?_; rintro e w6 ⟨rfl, hx6⟩))
                  have hx := (hx5.trans hx6).trans hx7
                  have c1 := (HPB.out.ext hx).c1
                  have f1 := (HPB.out.ext hx).fz 1
                  have hp8 := (HPB.out.ext hx).set1 (a' + 1) hgo
                  rw [show (((a' + 1 : Nat) : Int)) = (a' : Int) + 1 by omega] at hp8
                  have hm8 := (Mv.of_ext (b := b) hx).trans (Mv.set (b := b) (i := 1) (.int .i64 ((a' : Int) + 1)))
                  have HP8 := Lib.hid hp8
                  have HM8 := Lib.hid hm8
                  clear hx hx5 hx6 hx7 hp8 hm8
                  go_upto_region 14 with (fail)
                  clear c1 f1
                  generalize w7.setCell ⟨b, 1, none⟩ (.int .i64 ((a' : Int) + 1)) = w8 at *
                  have HNX8 := Lib.hid (HNX.out.mv HM8.out (fun e => hb7 e.symm))
                  have HE8 := Lib.hid (HE6.out w8.drew (HP8.out.ext (Ext.refl _).drew))
                  obtain ⟨_, x0, x1, x2, x3, _, _, _, _⟩ := HNX8.out.nb
                  have hw : IntKind.i64.wrap ((lv : Int) + 1) = (lv : Int) + 1 := IntWalk.i64_in _ (by omega)
                  refine wp_region_E (fun _ => True) (fun X => X.cell? ⟨g7, 0, none⟩ = some (.int .i64 n.k) ∧ X.cell? ⟨g7, 1, none⟩ = some (.int .i64 n.n) ∧ X.cell? ⟨g7, 2, none⟩ = some (.string n.s) ∧ X.cell? ⟨g7, 3, none⟩ = some (.slice n.A n.m n.c)) (fun _ => true) (by kernel_rfl) ?_
                  have hT0 : (fun X : World => X.cell? ⟨g7, 0, none⟩ = some (.int .i64 n.k) ∧ X.cell? ⟨g7, 1, none⟩ = some (.int .i64 n.n) ∧ X.cell? ⟨g7, 2, none⟩ = some (.string n.s) ∧ X.cell? ⟨g7, 3, none⟩ = some (.slice n.A n.m n.c)) w8.drew := ⟨x0, x1, x2, x3⟩
                  clear x0 x1 x2 x3
                  refine wpE_takeT (i := 0) (d := some 66) (v := .string S') rfl rfl (by kernel_rfl) (by kernel_rfl) (by kernel_rfl) rfl (fun _ _ _ h => h) (by rfl) ?hy0 hT0 ?go0
                  case hy0 =>
                    intro w9 hT9
                    obtain ⟨y0, y1, y2, y3⟩ := hT9
                    go_simp
                  (try simp only [Act.put, List.setIfInBounds_toArray, List.set_cons_zero, List.set_cons_succ])
                  refine wpE_takeT (i := 1) (d := some 67) (v := .agg #[.int .i64 n.k, .int .i64 n.n, .string n.s, .slice n.A n.m n.c]) rfl rfl (by kernel_rfl) (by kernel_rfl) (by kernel_rfl) rfl (fun _ _ _ h => h) (by rfl) ?hy1 hT0 ?go1
                  case hy1 =>
                    intro w9 hT9
                    obtain ⟨y0, y1, y2, y3⟩ := hT9
                    go_simp
                  (try simp only [Act.put, List.setIfInBounds_toArray, List.set_cons_zero, List.set_cons_succ])
                  refine wpE_takeT (i := 2) (d := some 68) (v := .pointer (some ⟨b, 0, none⟩)) rfl rfl (by kernel_rfl) (by kernel_rfl) (by kernel_rfl) rfl (fun _ _ _ h => h) (by rfl) ?hy2 hT0 ?go2
                  case hy2 =>
                    intro w9 hT9
                    obtain ⟨y0, y1, y2, y3⟩ := hT9
                    go_simp
                  (try simp only [Act.put, List.setIfInBounds_toArray, List.set_cons_zero, List.set_cons_succ])
                  refine wpE_takeT (i := 3) (d := some 69) (v := .int .i64 (lv : Int)) rfl rfl (by kernel_rfl) (by kernel_rfl) (by kernel_rfl) rfl (fun _ _ _ h => h) (by rfl) ?hy3 hT0 ?go3
                  case hy3 =>
                    intro w9 hT9
                    obtain ⟨y0, y1, y2, y3⟩ := hT9
                    go_simp
                  (try simp only [Act.put, List.setIfInBounds_toArray, List.set_cons_zero, List.set_cons_succ])
                  refine wpE_takeT (i := 4) (d := some 70) (v := .int .i64 ((lv : Int) + 1)) rfl rfl (by kernel_rfl) (by kernel_rfl) (by kernel_rfl) rfl (fun _ _ _ h => h) (by rfl) ?hy4 hT0 ?go4
                  case hy4 =>
                    intro w9 hT9
                    obtain ⟨y0, y1, y2, y3⟩ := hT9
                    go_simp
                  (try simp only [Act.put, List.setIfInBounds_toArray, List.set_cons_zero, List.set_cons_succ])
                  refine wpE_all (rs := [5]) (by kernel_rfl) (by simp) ?_
                  refine AllE.cons rfl (fun K hK => ?_) AllE.nil
                  simp only [List.getElem_toArray, List.getElem_cons_succ, List.getElem_cons_zero]
                  go_simp
                  go_at_call 87
                  refine (HE8.out).mono ?_
                  rintro e w6 ⟨a6, o6, rfl, ha6, hr6, hp6, hm6⟩
                  simp only []
                  exact ⟨rfl, a6, o6, rfl, by omega, hr6, hp6, (HMV.out.trans HM8.out).trans ((Mv.of_ext (Ext.refl _).drew).trans hm6)⟩
                | ok tb r3 =>
                  rw [hB, PR.bind_ok] at hres
                  have hE6 := HE5.out
                  rw [hB] at hE6
                  have HE6 := Lib.hid hE6
                  have HRES := Lib.hid hres
                  clear hB hE6 hres
                  go_upto_region 13 with (first
                    | (have hg := hx6; clear hg; go_at_call 77; refine (HN.out _ (hx5.trans hx6)).mono ?_; rintro e w7 ⟨rfl, hx7⟩)
                    | (go_at_call 77; refine (HN.out _ (Ext.refl _)).mono ?_; rintro e w5 ⟨rfl, hx5⟩)
                    | (go_at_call 106; refine (HLV.out _).mono ?_; rintro e w6 ⟨rfl, hx6⟩))
                  have hx := (hx5.trans hx6).trans hx7
                  have c1 := (HPB.out.ext hx).c1
                  have f1 := (HPB.out.ext hx).fz 1
                  have hp8 := (HPB.out.ext hx).set1 (a' + 1) hgo
                  rw [show (((a' + 1 : Nat) : Int)) = (a' : Int) + 1 by omega] at hp8
                  have hm8 := (Mv.of_ext (b := b) hx).trans (Mv.set (b := b) (i := 1) (.int .i64 ((a' : Int) + 1)))
                  have HP8 := Lib.hid hp8
                  have HM8 := Lib.hid hm8
                  clear hx hx5 hx6 hx7 hp8 hm8
                  go_upto_region 14 with (fail)
                  clear c1 f1
                  generalize w7.setCell ⟨b, 1, none⟩ (.int .i64 ((a' : Int) + 1)) = w8 at *
                  have HNX8 := Lib.hid (HNX.out.mv HM8.out (fun e => hb7 e.symm))
                  have HE8 := Lib.hid (HE6.out w8.drew (HP8.out.ext (Ext.refl _).drew))
                  obtain ⟨_, x0, x1, x2, x3, _, _, _, _⟩ := HNX8.out.nb
                  have hw : IntKind.i64.wrap ((lv : Int) + 1) = (lv : Int) + 1 := IntWalk.i64_in _ (by omega)
                  go_cut [66] (fun _ wx => CutN W b A N c toks a' o W.heap.size g7 S' tn tb r3 wx)
                  case first =>
                    have hg78 : g7 < w8.heap.size := HNX8.out.nb.lt
                    go_region_law (first
                      | (go_simp; go_at_call 87; refine (HE8.out).mono ?_; rintro e w6 ⟨v2, a6, rfl, ⟨d2, rfl, hrep⟩, ha6, hr6, hp6, hm6⟩; have hm86 : Mv b w8 w6 := (Mv.of_ext (Ext.refl _).drew).trans hm6; have HNX6 := Lib.hid (HNX8.out.mv hm86 (fun e => hb7 e.symm)); obtain ⟨_, u0, u1, u2, u3, uf0, uf1, uf2, uf3⟩ := HNX6.out.nb; obtain ⟨_, t0, t1, t2, t3, tf0, tf1, tf2, tf3⟩ := (NX.mv (b := b) HNX6.out (Mv.of_ext ((Ext.refl _).alloc (.cells #[.int .i64 n.k, .int .i64 n.n, .string n.s, .slice n.A n.m n.c, .int .i64 d2.k, .int .i64 d2.n, .string d2.s, .slice d2.A d2.m d2.c] 31))) (fun e => hb7 e.symm)).nb; have HR6 := Lib.hid hr6; have HP6 := Lib.hid hp6; have HREP6 := Lib.hid hrep; clear hr6 hp6 hrep; simp only []))
                    all_goals
                      go_wp2
                      go_meet
                      case rel =>
                        have hmW := (HMV.out.trans HM8.out).trans hm86
                        have hg7W : W.heap.size ≤ g7 := Nat.le_of_lt HG7.out
                        have hW8 : W.heap.size + 1 ≤ w8.heap.size := by have := HG7.out; omega
                        have hgb : g7 ≠ b := fun e => hb7 e.symm
                        have hx1 : Ext (fin4 w6 g7 (.int .i64 6) (.int .i64 0) (.string S') (.slice (some ⟨w6.heap.size, 0, none⟩) 2 2)) ((fin4 w6 g7 (.int .i64 6) (.int .i64 0) (.string S') (.slice (some ⟨w6.heap.size, 0, none⟩) 2 2)).alloc (.cells #[.int .i64 n.k, .int .i64 n.n, .string n.s, .slice n.A n.m n.c, .int .i64 d2.k, .int .i64 d2.n, .string d2.s, .slice d2.A d2.m d2.c] 31)) := (Ext.refl _).alloc _
                        have hf : ∀ k, k ≠ g7 → (fin4 w6 g7 (.int .i64 6) (.int .i64 0) (.string S') (.slice (some ⟨w6.heap.size, 0, none⟩) 2 2)).heap[k]? = w6.heap[k]? := fun k hk => fin4_other _ _ _ _ _ _ _ hk
                        have hs : (fin4 w6 g7 (.int .i64 6) (.int .i64 0) (.string S') (.slice (some ⟨w6.heap.size, 0, none⟩) 2 2)).heap.size = w6.heap.size := fin4_size _ _ _ _ _ _
                        have hr1 : Rep (fin4 w6 g7 (.int .i64 6) (.int .i64 0) (.string S') (.slice (some ⟨w6.heap.size, 0, none⟩) 2 2)) (fun k => W.heap.size + 1 ≤ k ∧ k ≠ g7) n tn := (HREP.out.mv (HM8.out.trans hm86) (fun k h1 e => by have := HBW.out; have := h1.1; omega)).keep (by omega) (fun k h1 _ => hf k h1.2)
                        have hr2 : Rep (fin4 w6 g7 (.int .i64 6) (.int .i64 0) (.string S') (.slice (some ⟨w6.heap.size, 0, none⟩) 2 2)) (fun k => W.heap.size + 1 ≤ k ∧ k ≠ g7) d2 tb := (HREP6.out.mono (Q := fun k => W.heap.size + 1 ≤ k ∧ k ≠ g7) (fun k h1 _ => by have h1' : w8.heap.size ≤ k := h1; omega)).keep (by omega) (fun k h1 _ => hf k h1.2)
                        have hkr := KR.lit (X := fin4 w6 g7 (.int .i64 6) (.int .i64 0) (.string S') (.slice (some ⟨w6.heap.size, 0, none⟩) 2 2)) (base := W.heap.size + 1) (av := g7) [n, d2] [tn, tb] #[.int .i64 n.k, .int .i64 n.n, .string n.s, .slice n.A n.m n.c, .int .i64 d2.k, .int .i64 d2.n, .string d2.s, .slice d2.A d2.m d2.c] rfl rfl (by simp) (fun i e t9 h1 h2 => by
                          have hi : i < 2 := by have := (List.getElem?_eq_some_iff.1 h1).1; simpa using this
                          obtain rfl | rfl : i = 0 ∨ i = 1 := by omega
                          · simp only [List.getElem?_cons_zero, Option.some.injEq] at h1 h2
                            subst h1 h2; exact hr1
                          · simp only [List.getElem?_cons_succ, List.getElem?_cons_zero, Option.some.injEq] at h1 h2
                            subst h1 h2; exact hr2) (by have := hm86.size; omega) (by have := hm86.size; omega)
                        rw [hs] at hkr
                        exact ⟨a6, w6.heap.size, n, d2, by omega, HR6.out, (HP6.out.keep W.heap.size HP.out.lt HP.out.lts (fun k hk => hf k (by omega))).ext hx1, (NX.fin HNX6.out).mv (Mv.of_ext hx1) hgb, hkr,
                          NX.mv (b := b) ((hf _ (by omega)).trans (HN2.out.mv (HM8.out.trans hm86) (fun e => hb2 e.symm))) (Mv.of_ext hx1) (fun e => hb2 e.symm), (hmW.finG hg7W _ _ _ _).trans (Mv.of_ext hx1)⟩
                  case rest =>
                    obtain ⟨a6, g9, n6, d6, ha6, hr3, hp6, hnx6, hkr6, hn26, hm6⟩ := hcut
                    have HR3 := Lib.hid hr3
                    have HP6 := Lib.hid hp6
                    have HNX6 := Lib.hid hnx6
                    have HKR6 := Lib.hid hkr6
                    have HN26 := Lib.hid hn26
                    have HM6 := Lib.hid hm6
                    obtain ⟨t6, ht6⟩ : ∃ t, hd (toks.drop a6) = t := ⟨_, rfl⟩
                    obtain ⟨S6, hS6⟩ : ∃ S, S = bs t6.tx := ⟨_, rfl⟩
                    have HNN := Lib.hid (fun X (hX : Ext wc X) => pnext_any (hp6.ext hX) S6 (by rw [ht6]; exact hS6))
                    have HWU := Lib.hid (fun X (hX : Ext wc X) (v : Bool) (hv : v = decide (t6.tx ≠ [] ∧ t6.tx ∈ units)) L (hL : L = bs (Jw units)) => pin_any (hp6.ext hX) S6 (by rw [ht6]; exact hS6) units wl_units v (by rw [ht6]; exact hv) L hL jw_units)
                    have htl6 := (hd_mem hp6).2.2
                    have hres := HRES.out
                    have hJ : joinP lv t'.tx tn tb r3 = if lv = 5 ∧ t6.tx ∈ units then (.nd (if t'.tx = wMinus then 8 else 7) 0 t6.tx [tn, tb], toks.drop (a6 + 1)) else (.nd 6 0 t'.tx [tn, tb], toks.drop a6) := by
                      unfold joinP; rw [hr3, ht6, htl6]
                    rw [hJ] at hres
                    have hat6 := hp6.at_
                    have HBW6 := HBW
                    obtain ⟨A0, c0', e0', hrep0⟩ := hkr6.rep 6 0 t'.tx
                    simp only [List.length_cons, List.length_nil, Nat.zero_add, Nat.reduceAdd, Value.slice.injEq] at e0' hrep0
                    obtain ⟨rfl, _, rfl⟩ := e0'
                    have HREP0 := Lib.hid hrep0
                    clear hr3 hp6 hnx6 hkr6 hn26 hm6 hJ hrep0 HRES
                    by_cases h5 : lv = 5
                    · have e5 : ((lv : Int) == 5) = true := by simp [h5]
                      have e4 : ((lv : Int) == 4) = false := by simpa using (show ¬ (lv : Int) = 4 by omega)
                      have h4n : ¬ lv = 4 := by omega
                      by_cases hu : t6.tx ∈ units
                      · have hne6 : t6.tx ≠ [] := fun e => by rw [e] at hu; revert hu; decide
                        have HW := Lib.hid (fun X (hX : Ext wc X) L hL => HWU.out X hX true (decide_eq_true ⟨hne6, hu⟩).symm L hL)
                        have hgo6 : a6 + 1 < N := HP6.out.go (HP6.out.txne (s := t6.tx) (by rw [ht6]) hne6)
                        have haK : (a6 : Int) ≤ 100000 := by have := HP6.out.nb; omega
                        rw [if_pos (c := lv = 5 ∧ t6.tx ∈ units) ⟨h5, hu⟩] at hres
                        dsimp only at hres
                        rw [if_neg h4n] at hres
                        have HS6 := Lib.hid hS6
                        clear ht6 hS6 htl6 h5 h4n hu hne6
                        by_cases hmi : t'.tx = wMinus
                        · rw [if_pos hmi] at hres
                          have em : (S'.toList == [45]) = true := by rw [HSE.out, bs_list]; rw [hmi]; decide
                          have HRES := Lib.hid hres
                          clear hres hmi
                          go_wp2_with (first
                            | (have hg := hx6; clear hg; go_at_call 77; refine (HNN.out _ hx6).mono ?_; rintro e w7 ⟨rfl, hx67⟩; have hx7 := hx6.trans hx67; obtain ⟨_, s0, s1, s2, s3, sf0, sf1, sf2, sf3⟩ := (NX.mv (b := b) HNX6.out (Mv.of_ext hx7) (fun e => hb7 e.symm)).nb; have l1 := (HP6.out.ext hx7).c1; have lf1 := (HP6.out.ext hx7).fz 1; have HX7 := Lib.hid hx7; clear hx7 hx67)
                            | (go_at_call 77; refine (HNN.out _ (Ext.refl _)).mono ?_; rintro e w5 ⟨rfl, hx5⟩)
                            | (go_at_call 118; refine (HW.out _ hx5 _ (by kernel_rfl)).mono ?_; rintro e w6 ⟨rfl, hx56⟩; have hx6 := hx5.trans hx56; clear hx56))
                          have hg7W : W.heap.size ≤ g7 := Nat.le_of_lt HG7.out
                          have hgb : g7 ≠ b := fun e => hb7 e.symm
                          have hn7 := NX.mv (b := b) HNX6.out (Mv.of_ext HX7.out) hgb
                          have hnY : NX ((((w7.setCell ⟨g7, 0, none⟩ (.int .i64 7)).setCell ⟨g7, 2, none⟩ (.string S6)).setCell ⟨g7, 0, none⟩ (.int .i64 8)).setCell ⟨b, 1, none⟩ (.int .i64 ((a6 : Int) + 1))) g7 8 0 S6 (.slice (some ⟨g9, 0, none⟩) 2 2) := (heap_setCell_other _ ⟨b, 1, none⟩ g7 _ hgb).trans ((heap_setCell_same _ g7 0 _ 31 _ (heap_setCell_same _ g7 2 _ 31 _ (heap_setCell_same w7 g7 0 _ 31 _ hn7))).trans rfl)
                          have hoth : ∀ k, k ≠ g7 → k ≠ b → ((((w7.setCell ⟨g7, 0, none⟩ (.int .i64 7)).setCell ⟨g7, 2, none⟩ (.string S6)).setCell ⟨g7, 0, none⟩ (.int .i64 8)).setCell ⟨b, 1, none⟩ (.int .i64 ((a6 : Int) + 1))).heap[k]? = w7.heap[k]? := fun k h1 h2 => by rw [heap_setCell_other _ ⟨b, 1, none⟩ k _ h2, heap_setCell_other _ ⟨g7, 0, none⟩ k _ h1, heap_setCell_other _ ⟨g7, 2, none⟩ k _ h1, heap_setCell_other _ ⟨g7, 0, none⟩ k _ h1]
                          have hpY := (HP.out.setNew (HP.out.setNew (HP.out.setNew (HP6.out.ext HX7.out) (p := ⟨g7, 0, none⟩) hg7W (.int .i64 7)) (p := ⟨g7, 2, none⟩) hg7W (.string S6)) (p := ⟨g7, 0, none⟩) hg7W (.int .i64 8)).set1 (a6 + 1) hgo6
                          rw [show (((a6 + 1 : Nat) : Int)) = (a6 : Int) + 1 by omega] at hpY
                          obtain ⟨A9, c9', e9', hrep9⟩ := HKR6.out.rep 8 0 t6.tx
                          simp only [List.length_cons, List.length_nil, Nat.zero_add, Nat.reduceAdd, Value.slice.injEq] at e9' hrep9
                          obtain ⟨rfl, _, rfl⟩ := e9'
                          have hrep9 : Rep wc (fun k => W.heap.size + 1 ≤ k ∧ k ≠ g7) ⟨8, 0, S6, some ⟨g9, 0, none⟩, 2, 2⟩ (.nd 8 0 t6.tx [tn, tb]) := by rw [HS6.out]; exact hrep9
                          exact ⟨⟨a6 + 1, g1, ⟨8, 0, S6, some ⟨g9, 0, none⟩, 2, 2⟩, _, by omega, by omega, hpY, hnY, (hrep9.ext HX7.out).keep (by simp) (fun k h1 _ => hoth k h1.2 (fun e => by have := HBW6.out; have := h1.1; omega)),
                            (hoth W.heap.size (by omega) (fun e => hb2 e.symm)).trans (NX.mv (b := b) HN26.out (Mv.of_ext HX7.out) (fun e => hb2 e.symm)), HRES.out, ((((HM6.out.trans (Mv.of_ext HX7.out)).setNew (p := ⟨g7, 0, none⟩) hg7W (.int .i64 7)).setNew (p := ⟨g7, 2, none⟩) hg7W (.string S6)).setNew (p := ⟨g7, 0, none⟩) hg7W (.int .i64 8)).trans (Mv.set _)⟩, by rw [hpY.meas, HPB.out.meas]; omega⟩
                        · rw [if_neg hmi] at hres
                          have em : (S'.toList == [45]) = false := by rw [HSE.out, bs_list]; exact beq_eq_false_iff_ne.2 hmi
                          have HRES := Lib.hid hres
                          clear hres hmi
                          go_wp2_with (first
                            | (have hg := hx6; clear hg; go_at_call 77; refine (HNN.out _ hx6).mono ?_; rintro e w7 ⟨rfl, hx67⟩; have hx7 := hx6.trans hx67; obtain ⟨_, s0, s1, s2, s3, sf0, sf1, sf2, sf3⟩ := (NX.mv (b := b) HNX6.out (Mv.of_ext hx7) (fun e => hb7 e.symm)).nb; have l1 := (HP6.out.ext hx7).c1; have lf1 := (HP6.out.ext hx7).fz 1; have HX7 := Lib.hid hx7; clear hx7 hx67)
                            | (go_at_call 77; refine (HNN.out _ (Ext.refl _)).mono ?_; rintro e w5 ⟨rfl, hx5⟩)
                            | (go_at_call 118; refine (HW.out _ hx5 _ (by kernel_rfl)).mono ?_; rintro e w6 ⟨rfl, hx56⟩; have hx6 := hx5.trans hx56; clear hx56))
                          have hg7W : W.heap.size ≤ g7 := Nat.le_of_lt HG7.out
                          have hgb : g7 ≠ b := fun e => hb7 e.symm
                          have hn7 := NX.mv (b := b) HNX6.out (Mv.of_ext HX7.out) hgb
                          have hnY : NX (((w7.setCell ⟨g7, 0, none⟩ (.int .i64 7)).setCell ⟨g7, 2, none⟩ (.string S6)).setCell ⟨b, 1, none⟩ (.int .i64 ((a6 : Int) + 1))) g7 7 0 S6 (.slice (some ⟨g9, 0, none⟩) 2 2) := (heap_setCell_other _ ⟨b, 1, none⟩ g7 _ hgb).trans ((heap_setCell_same _ g7 2 _ 31 _ (heap_setCell_same w7 g7 0 _ 31 _ hn7)).trans rfl)
                          have hoth : ∀ k, k ≠ g7 → k ≠ b → (((w7.setCell ⟨g7, 0, none⟩ (.int .i64 7)).setCell ⟨g7, 2, none⟩ (.string S6)).setCell ⟨b, 1, none⟩ (.int .i64 ((a6 : Int) + 1))).heap[k]? = w7.heap[k]? := fun k h1 h2 => by rw [heap_setCell_other _ ⟨b, 1, none⟩ k _ h2, heap_setCell_other _ ⟨g7, 2, none⟩ k _ h1, heap_setCell_other _ ⟨g7, 0, none⟩ k _ h1]
                          have hpY := (HP.out.setNew (HP.out.setNew (HP6.out.ext HX7.out) (p := ⟨g7, 0, none⟩) hg7W (.int .i64 7)) (p := ⟨g7, 2, none⟩) hg7W (.string S6)).set1 (a6 + 1) hgo6
                          rw [show (((a6 + 1 : Nat) : Int)) = (a6 : Int) + 1 by omega] at hpY
                          obtain ⟨A9, c9', e9', hrep9⟩ := HKR6.out.rep 7 0 t6.tx
                          simp only [List.length_cons, List.length_nil, Nat.zero_add, Nat.reduceAdd, Value.slice.injEq] at e9' hrep9
                          obtain ⟨rfl, _, rfl⟩ := e9'
                          have hrep9 : Rep wc (fun k => W.heap.size + 1 ≤ k ∧ k ≠ g7) ⟨7, 0, S6, some ⟨g9, 0, none⟩, 2, 2⟩ (.nd 7 0 t6.tx [tn, tb]) := by rw [HS6.out]; exact hrep9
                          exact ⟨⟨a6 + 1, g1, ⟨7, 0, S6, some ⟨g9, 0, none⟩, 2, 2⟩, _, by omega, by omega, hpY, hnY, (hrep9.ext HX7.out).keep (by simp) (fun k h1 _ => hoth k h1.2 (fun e => by have := HBW6.out; have := h1.1; omega)),
                            (hoth W.heap.size (by omega) (fun e => hb2 e.symm)).trans (NX.mv (b := b) HN26.out (Mv.of_ext HX7.out) (fun e => hb2 e.symm)), HRES.out, (((HM6.out.trans (Mv.of_ext HX7.out)).setNew (p := ⟨g7, 0, none⟩) hg7W (.int .i64 7)).setNew (p := ⟨g7, 2, none⟩) hg7W (.string S6)).trans (Mv.set _)⟩, by rw [hpY.meas, HPB.out.meas]; omega⟩
                      · have HW := Lib.hid (fun X (hX : Ext wc X) L hL => HWU.out X hX false (decide_eq_false (fun h9 => hu h9.2)).symm L hL)
                        rw [if_neg (c := lv = 5 ∧ t6.tx ∈ units) (fun h => hu h.2)] at hres
                        dsimp only at hres
                        rw [if_neg h4n] at hres
                        have HRES := Lib.hid hres
                        clear ht6 hS6 htl6 h5 h4n hu hres
                        go_wp2_with (first
                          | (go_at_call 77; refine (HNN.out _ (Ext.refl _)).mono ?_; rintro e w5 ⟨rfl, hx5⟩)
                          | (go_at_call 118; refine (HW.out _ hx5 _ (by kernel_rfl)).mono ?_; rintro e w6 ⟨rfl, hx56⟩))
                        have hx6 := hx5.trans hx56
                        have hmx : Mv b wc w6 := Mv.of_ext hx6
                        exact ⟨⟨a6, g1, ⟨6, 0, S', some ⟨g9, 0, none⟩, 2, 2⟩, _, by omega, by omega, HP6.out.ext hx6, HNX6.out.mv hmx (fun e => hb7 e.symm), by rw [HSE.out]; exact HREP0.out.ext hx6, HN26.out.mv hmx (fun e => hb2 e.symm), HRES.out, HM6.out.trans hmx⟩, by rw [(HP6.out.ext hx6).meas, HPB.out.meas]; omega⟩
                    · rw [if_neg (c := lv = 5 ∧ t6.tx ∈ units) (fun h => h5 h.1)] at hres
                      have e5 : ((lv : Int) == 5) = false := by simpa using (show ¬ (lv : Int) = 5 by omega)
                      dsimp only at hres
                      clear ht6 hS6 htl6 h5
                      by_cases h4 : lv = 4
                      · rw [if_pos h4] at hres
                        have e4 : ((lv : Int) == 4) = true := by simp [h4]
                        subst hres
                        clear h4
                        obtain ⟨_, j0, j1, j2, j3, jf0, jf1, jf2, jf3⟩ := HN26.out.nb
                        obtain ⟨_, s0, s1, s2, s3, _, _, _, _⟩ := HNX6.out.nb
                        go_wp2
                        refine bodyPost_ret (v := .agg #[.int .i64 6, .int .i64 0, .string S', .slice (some ⟨g9, 0, none⟩) 2 2]) (by simp [results, Tryz.results87, go_sem, *]) rfl ?_
                        exact ⟨_, a6, rfl, ⟨⟨6, 0, bs t'.tx, some ⟨g9, 0, none⟩, 2, 2⟩, by rw [HSE.out], (HREP0.out.mono (Q := fun k => W.heap.size + 1 ≤ k) (fun k h1 _ => h1.1)).fin (by omega) _ _ _ _⟩, by omega, rfl, HP.out.fin HP6.out _ _ _ _, HM6.out.fin _ _ _ _⟩
                      · rw [if_neg h4] at hres
                        have e4 : ((lv : Int) == 4) = false := by simpa using (show ¬ (lv : Int) = 4 by omega)
                        have HRES := Lib.hid hres
                        clear h4 hres
                        go_wp2
                        exact ⟨⟨a6, g1, ⟨6, 0, S', some ⟨g9, 0, none⟩, 2, 2⟩, _, by omega, by omega, HP6.out, HNX6.out, by rw [HSE.out]; exact HREP0.out, HN26.out, HRES.out, HM6.out⟩, by rw [HP6.out.meas, HPB.out.meas]; omega⟩
              · rw [if_neg hl] at hres
                have hl2 : ((lvOf t'.tx : Int) == (lv : Int)) = false := by simpa using (show ¬ (lvOf t'.tx : Int) = (lv : Int) by omega)
                subst hres
                clear hpb hnx hrep hn2 hmv ht' hS' hl
                go_upto_region 21 with (first
                  | (go_at_call 77; refine (HN.out _ (Ext.refl _)).mono ?_; rintro e w5 ⟨rfl, hx5⟩)
                  | (go_at_call 106; refine (HLV.out _).mono ?_; rintro e w6 ⟨rfl, hx6⟩))
                have HX6 := Lib.hid (hx5.trans hx6)
                have HP6 := Lib.hid (HPB.out.ext (hx5.trans hx6))
                have hm6 : Mv b wr w6 := Mv.of_ext (hx5.trans hx6)
                obtain ⟨_, j0, j1, j2, j3, jf0, jf1, jf2, jf3⟩ := (HN2.out.mv hm6 (fun e => hb2 e.symm)).nb
                obtain ⟨_, s0, s1, s2, s3, _, _, _, _⟩ := (HNX.out.mv hm6 (fun e => hb7 e.symm)).nb
                clear hx5 hx6
                go_wp2
                refine bodyPost_ret (v := .agg #[.int .i64 n.k, .int .i64 n.n, .string n.s, .slice n.A n.m n.c]) (by simp [results, Tryz.results87, go_sem, *]) rfl ?_
                exact ⟨_, a', rfl, ⟨n, rfl, (((HREP.out.mono (Q := fun k => W.heap.size + 1 ≤ k) (fun k h1 _ => h1.1)).ext HX6.out)).fin (by omega) _ _ _ _⟩, haa, rfl, HP.out.fin HP6.out _ _ _ _, (HMV.out.trans hm6).fin _ _ _ _⟩
/-- The contract of expr: at enough fuel. -/
theorem pexpr_any : ∀ f, EC (exprP f) f
  | 0 => fun _ _ _ _ _ _ _ _ _ _ _ _ _ h => absurd h (by omega)
  | f + 1 => pexpr_step (pexpr_any f)
end Go.Proofs.YtnpenepdechkjaaGreatDoor

/- The production's whole. -/
namespace Go.Proofs.YtnpenepdechkjaaGreatDoor
open Go Go.RowKit

set_option maxRecDepth 100000 in
theorem pwhole_any (f : Nat) {W : World} {b : Nat} {A : Option Addr} {N c : Nat} {toks : List Tk} {a o : Nat} (h : PB W b A N c toks a o) (ho : o ≤ 12) (hf : 9 * (N - a) + 7 < f) :
    Calls Tryz.prog 40 #[.pointer (some ⟨b, 0, none⟩)] W (GP b A N c toks a o (RT W.heap.size) W (exprP f 1 o (toks.drop a))) := by
  have HE := Lib.hid (show Calls Tryz.prog 87 #[.pointer (some ⟨b, 0, none⟩), .int .i64 1] (W.alloc (.cells #[.int .i64 0, .int .i64 0, .string ⟨#[]⟩, .slice none 0 0] 31)) (GP b A N c toks a o (RT (W.alloc (.cells #[.int .i64 0, .int .i64 0, .string ⟨#[]⟩, .slice none 0 0] 31)).heap.size) (W.alloc (.cells #[.int .i64 0, .int .i64 0, .string ⟨#[]⟩, .slice none 0 0] 31)) (exprP f 1 o (toks.drop a))) from pexpr_any f _ b A N c toks a o 1 (h.ext ((Ext.refl W).alloc _)) ho (by omega) (by omega) (by omega))
  have HP := Lib.hid h
  have hn2 : NX (W.alloc (.cells #[.int .i64 0, .int .i64 0, .string ⟨#[]⟩, .slice none 0 0] 31)) W.heap.size 0 0 ⟨#[]⟩ (.slice none 0 0) := heap_alloc_new _ _
  have HN2 := Lib.hid hn2
  cases hA : exprP f 1 o (toks.drop a) with
  | bad r er =>
    rw [hA] at HE
    clear h hn2 hA hf
    go_enter Tryz.func40, Tryz.ntmps40
    go_wp2_with (first | (go_at_call 87; refine (HE.out).mono ?_; rintro e w9 ⟨a9, o9, rfl, ha9, hr9, hp9, hm9⟩; have HR9 := Lib.hid hr9; clear hr9))
    exact ⟨rfl, a9, o9, rfl, ha9, HR9.out, hp9, (Mv.of_ext ((Ext.refl _).alloc _)).trans hm9⟩
  | ok t r =>
    rw [hA] at HE
    have HBW := Lib.hid h.lt
    clear h hn2 hA hf
    go_enter Tryz.func40, Tryz.ntmps40
    go_wp2_with (first | (go_at_call 87; refine (HE.out).mono ?_; rintro e w9 ⟨v9, a9, rfl, ⟨d, rfl, hrep⟩, ha9, hr9, hp9, hm9⟩; have HR9 := Lib.hid hr9; have HP9 := Lib.hid hp9; have HREP := Lib.hid hrep; obtain ⟨_, j0, j1, j2, j3, jf0, jf1, jf2, jf3⟩ := (HN2.out.mv hm9 (by have := HBW.out; omega)).nb; clear hr9 hp9 hrep))
    refine bodyPost_ret (v := .agg #[.int .i64 d.k, .int .i64 d.n, .string d.s, .slice d.A d.m d.c]) (by simp [results, Tryz.results40, go_sem, *]) rfl ?_
    exact ⟨_, a9, rfl, ⟨d, rfl, (HREP.out.mono (Q := fun k => W.heap.size + 1 ≤ k) (fun k h1 _ => by simp at h1; omega)).fin (by omega) _ _ _ _⟩, ha9, HR9.out, HP.out.fin HP9.out _ _ _ _, ((Mv.of_ext ((Ext.refl _).alloc _)).trans hm9).fin _ _ _ _⟩
end Go.Proofs.YtnpenepdechkjaaGreatDoor

/- Rules in memory: rows of rules. -/
namespace Go.Proofs.YtnpenepdechkjaaGreatDoor
open Go Go.RowKit

/-- The head of a rule in memory. -/
structure RlD where
  name : ByteArray
  from_ : Int
  on_ : ByteArray
  if_ : Nd
  due : Nd
  unless_ : ByteArray
  else_ : ByteArray
def rcf (d : RlD) : List Value := [.string d.name, .int .i64 d.from_, .string d.on_, .int .i64 d.if_.k, .int .i64 d.if_.n, .string d.if_.s, .slice d.if_.A d.if_.m d.if_.c, .int .i64 d.due.k, .int .i64 d.due.n, .string d.due.s, .slice d.due.A d.due.m d.due.c, .string d.unless_, .string d.else_]
def RlD.val (d : RlD) : Value := .agg #[.string d.name, .int .i64 d.from_, .string d.on_, .int .i64 d.if_.k, .int .i64 d.if_.n, .string d.if_.s, .slice d.if_.A d.if_.m d.if_.c, .int .i64 d.due.k, .int .i64 d.due.n, .string d.due.s, .slice d.due.A d.due.m d.due.c, .string d.unless_, .string d.else_]
theorem rcf_len (d : RlD) : (rcf d).length = 13 := rfl
theorem rcf_one (d : RlD) : ∀ u ∈ rcf d, u.oneCell' = true := fun u hu => by
  simp only [rcf, List.mem_cons, List.not_mem_nil, or_false] at hu
  rcases hu with rfl | rfl | rfl | rfl | rfl | rfl | rfl | rfl | rfl | rfl | rfl | rfl | rfl <;> rfl
/-- d is the head of the rule x, whose trees' rows lie in blocks of which P holds. -/
structure RepR (W : World) (P : Nat → Prop) (d : RlD) (x : Rl) : Prop where
  name : d.name = bs x.name
  from_ : d.from_ = x.from_
  on_ : d.on_ = bs x.on_
  if_ : Rep W P d.if_ x.if_
  due : Rep W P d.due x.due
  unless_ : d.unless_ = bs x.unless_
  else_ : d.else_ = bs x.else_
theorem RepR.keep {W W' : World} {P : Nat → Prop} {d : RlD} {t : Rl} (h : RepR W P d t) (hsz : W.heap.size ≤ W'.heap.size) (hk : ∀ k, P k → k < W.heap.size → W'.heap[k]? = W.heap[k]?) : RepR W' P d t := ⟨h.1, h.2, h.3, h.4.keep hsz hk, h.5.keep hsz hk, h.6, h.7⟩
theorem RepR.mono {W : World} {P Q : Nat → Prop} {d : RlD} {t : Rl} (h : RepR W P d t) (hq : ∀ k, P k → k < W.heap.size → Q k) : RepR W Q d t := ⟨h.1, h.2, h.3, h.4.mono hq, h.5.mono hq, h.6, h.7⟩
theorem RepR.ext {W W' : World} {P : Nat → Prop} {d : RlD} {t : Rl} (h : RepR W P d t) (hx : Ext W W') : RepR W' P d t := h.keep hx.lt fun k _ hk => hx.block k hk
theorem RepR.mv {W W' : World} {P : Nat → Prop} {b : Nat} {d : RlD} {t : Rl} (h : RepR W P d t) (hm : Mv b W W') (hb : ∀ k, P k → k ≠ b) : RepR W' P d t := h.keep hm.size fun k h1 h2 => hm.keep k (hb k h1) h2
theorem info50 : (Tryz.prog.info? 50).map (fun i => (i.zero, i.size, i.bytes)) = some (some (.agg #[.string ⟨#[]⟩, .int .i64 0, .string ⟨#[]⟩, .int .i64 0, .int .i64 0, .string ⟨#[]⟩, .slice none 0 0, .int .i64 0, .int .i64 0, .string ⟨#[]⟩, .slice none 0 0, .string ⟨#[]⟩, .string ⟨#[]⟩]), 13, 184) := by kernel_rfl
/-- A row of rules that the method has made; what the rules hold lies in other blocks. -/
def KRr (W : World) (base : Nat) (v : Value) (hs : List RlD) (ts : List Rl) : Prop :=
  OL rcf 13 W base 50 v hs ∧ hs.length = ts.length ∧ ∀ (i : Nat) (h : RlD) (t : Rl), hs[i]? = some h → ts[i]? = some t → RepR W (fun k => base ≤ k ∧ v.ownBlock ≠ some k) h t
theorem KRr.lt {W : World} {base : Nat} {v : Value} {hs : List RlD} {ts : List Rl} (h : KRr W base v hs ts) : ∀ k, v.ownBlock = some k → base ≤ k ∧ k < W.heap.size := World.ownsRow.lt h.1
theorem KRr.nil (W : World) (base : Nat) : KRr W base (.slice none 0 0) [] [] := ⟨OL.nil W base 50, rfl, fun i h t hh => by simp at hh⟩
theorem KRr.keep {W W' : World} {base : Nat} {v : Value} {hs : List RlD} {ts : List Rl} (h : KRr W base v hs ts) (hsz : W.heap.size ≤ W'.heap.size) (hk : ∀ k, base ≤ k → k < W.heap.size → W'.heap[k]? = W.heap[k]?) : KRr W' base v hs ts :=
  ⟨OL.keepB h.1 fun k hk' => hk k (h.lt k hk').1 (h.lt k hk').2, h.2.1, fun i d t h1 h2 => (h.2.2 i d t h1 h2).keep hsz (fun k h3 h4 => hk k h3.1 h4)⟩
theorem KRr.mv {W W' : World} {base b : Nat} {v : Value} {hs : List RlD} {ts : List Rl} (h : KRr W base v hs ts) (hm : Mv b W W') (hb : b < base) : KRr W' base v hs ts :=
  h.keep hm.size fun k h1 h3 => hm.keep k (by omega) h3
/-- A row of rules that lies in memory. -/
def RW (W : World) (P : Nat → Prop) (A : Option Addr) (n : Nat) (ts : List Rl) : Prop :=
  ∃ ds : List RlD, n = ts.length ∧ ds.length = ts.length ∧ SL rcf 13 W A n ds ∧ (∀ x, A = some x → P x.block ∧ x.block < W.heap.size) ∧ ∀ (i : Nat) (h : RlD) (t : Rl), ds[i]? = some h → ts[i]? = some t → RepR W P h t
theorem RW.nil (W : World) (P : Nat → Prop) : RW W P none 0 [] := ⟨[], rfl, rfl, SL.nil W, (fun _ h => nomatch h), fun i h t hh => by simp at hh⟩
theorem RW.keep {W W' : World} {P : Nat → Prop} {A : Option Addr} {n : Nat} {ts : List Rl} (h : RW W P A n ts) (hsz : W.heap.size ≤ W'.heap.size) (hk : ∀ k, P k → k < W.heap.size → W'.heap[k]? = W.heap[k]?) : RW W' P A n ts := by
  obtain ⟨ds, h1, h2, h3, h4, h5⟩ := h
  exact ⟨ds, h1, h2, h3.blocks fun x hx hl => hk _ (h4 x hx).1 hl, fun x hx => ⟨(h4 x hx).1, Nat.lt_of_lt_of_le (h4 x hx).2 hsz⟩, fun i d t g1 g2 => (h5 i d t g1 g2).keep hsz hk⟩
theorem RW.ext {W W' : World} {P : Nat → Prop} {A : Option Addr} {n : Nat} {ts : List Rl} (h : RW W P A n ts) (hx : Ext W W') : RW W' P A n ts := h.keep hx.lt fun k _ hk => hx.block k hk
theorem RW.mono {W : World} {P Q : Nat → Prop} {A : Option Addr} {n : Nat} {ts : List Rl} (h : RW W P A n ts) (hq : ∀ k, P k → k < W.heap.size → Q k) : RW W Q A n ts := by
  obtain ⟨ds, h1, h2, h3, h4, h5⟩ := h
  exact ⟨ds, h1, h2, h3, fun x hx => ⟨hq _ (h4 x hx).1 (h4 x hx).2, (h4 x hx).2⟩, fun i d t g1 g2 => (h5 i d t g1 g2).mono hq⟩
theorem KRr.row {W : World} {base : Nat} {v : Value} {hs : List RlD} {ts : List Rl} (h : KRr W base v hs ts) : ∃ A c, v = .slice A ts.length c ∧ RW W (fun k => base ≤ k) A ts.length ts := by
  obtain ⟨A, c, e, _, hs1⟩ := OL.form rcf_len h.1
  rw [h.2.1] at e hs1
  refine ⟨A, c, e, hs, rfl, h.2.1, hs1, fun x hx => h.lt x.block (by rw [e, hx]; rfl), fun i d t h1 h2 => (h.2.2 i d t h1 h2).mono fun k hk _ => hk.1⟩
/-- append of a further rule, that lies in blocks newer than the row. -/
theorem KRr.append {W X : World} {base : Nat} {v : Value} {hs : List RlD} {ts : List Rl} (h : KRr X base v hs ts) (hW : ∀ k, v.ownBlock = some k → k < W.heap.size) (d : RlD) (t : Rl) (hd : RepR X (fun k => W.heap.size ≤ k) d t) (hbW : base ≤ W.heap.size) (hWX : W.heap.size ≤ X.heap.size) (hn : hs.length ≤ 100000) (g : Nat) (hg : g = X.heap.size) :
    ∃ A' c' w', (Builtin.append_ #[22, 22] 22 #[v, .slice (some ⟨g, 0, none⟩) 1 1]).run Tryz.prog (X.alloc (.cells #[.string d.name, .int .i64 d.from_, .string d.on_, .int .i64 d.if_.k, .int .i64 d.if_.n, .string d.if_.s, .slice d.if_.A d.if_.m d.if_.c, .int .i64 d.due.k, .int .i64 d.due.n, .string d.due.s, .slice d.due.A d.due.m d.due.c, .string d.unless_, .string d.else_] 50)) = .ok (.slice A' (hs.length + 1) c') w' ∧
      KRr w' base (.slice A' (hs.length + 1) c') (hs ++ [d]) (ts ++ [t]) ∧ (∀ B, B ≤ base → Below B X w') ∧ (∀ k, k < X.heap.size → v.ownBlock ≠ some k → w'.heap[k]? = X.heap[k]?) ∧ X.heap.size ≤ w'.heap.size ∧ (∀ k, (Value.slice A' (hs.length + 1) c').ownBlock = some k → v.ownBlock = some k ∨ X.heap.size ≤ k) := by
  subst hg
  obtain ⟨Y, hY⟩ : ∃ Y, Y = X.alloc (.cells #[.string d.name, .int .i64 d.from_, .string d.on_, .int .i64 d.if_.k, .int .i64 d.if_.n, .string d.if_.s, .slice d.if_.A d.if_.m d.if_.c, .int .i64 d.due.k, .int .i64 d.due.n, .string d.due.s, .slice d.due.A d.due.m d.due.c, .string d.unless_, .string d.else_] 50) := ⟨_, rfl⟩
  have hXY : Ext X Y := by rw [hY]; exact (Ext.refl X).alloc _
  have hYs : Y.heap.size = X.heap.size + 1 := by rw [hY]; simp
  have hso := SL.one (cf := rcf) (sz := 13) X d #[.string d.name, .int .i64 d.from_, .string d.on_, .int .i64 d.if_.k, .int .i64 d.if_.n, .string d.if_.s, .slice d.if_.A d.if_.m d.if_.c, .int .i64 d.due.k, .int .i64 d.due.n, .string d.due.s, .slice d.due.A d.due.m d.due.c, .string d.unless_, .string d.else_] rfl 50
  rw [← hY] at hso ⊢
  obtain ⟨_, hs1⟩ := hso
  have hown : OL rcf 13 Y base 50 v hs := h.1.ext hXY
  obtain ⟨A', c', w', r1, r2, r3, r4, r5⟩ := run_append_src5 (P := Tryz.prog) (t := 22) (e := 50) (size := 13) (bytes := 184) (base := base) Tryz.underlying22 info50 rfl (by omega) hown (A := some ⟨X.heap.size, 0, none⟩) (m := 1) (c := 1) (news := gcells rcf [d]) (gcells_len rcf_len [d])
    (fun _ => ⟨X.heap.size, 0, rfl, fun j u hu => by
      obtain ⟨b, off, e, _, hc⟩ := hs1 (by omega)
      simp only [Option.some.injEq, Addr.mk.injEq] at e
      obtain ⟨rfl, rfl, _⟩ := e
      have := hc 0 d rfl j u (by simpa [gcells] using hu)
      simpa using this⟩)
    (gcells_one rcf_one [d]) (by simp [maxLen]; omega) (by omega) (by omega)
  have hkeep : ∀ k, k < Y.heap.size → v.ownBlock ≠ some k → w'.heap[k]? = Y.heap[k]? := fun k hk hne => r4 k hk (fun a => ownBlock_of hne a)
  have hsz : Y.heap.size ≤ w'.heap.size := (r3 base (Nat.le_refl _)).size
  have hnew : ∀ k, (Value.slice A' (hs.length + 1) c').ownBlock = some k → v.ownBlock = some k ∨ Y.heap.size ≤ k := fun k e => by
    rcases r5 with r5 | r5
    · exact .inl (r5.symm.trans e)
    · rw [r5] at e
      injection e with e; exact .inr (by omega)
  refine ⟨A', c', w', r1, ⟨?_, by simp [h.2.1], fun i e t' h1 h2 => ?_⟩, fun B hB => Below.trans (Below.mono hXY (by omega)) (r3 B hB), fun k hk hne => (hkeep k (by omega) hne).trans (hXY.block k hk), by omega, fun k e => by
    rcases hnew k e with h1 | h1
    · exact .inl h1
    · exact .inr (by omega)⟩
  · unfold OL
    rw [List.length_append, gcells_append]
    exact r2
  · rw [List.getElem?_append] at h1 h2
    rw [h.2.1] at h1
    split at h1
    · next hi =>
      rw [if_pos hi] at h2
      have h3 := (h.2.2 i e t' h1 h2).ext hXY
      exact ((h3.mono (Q := fun k => base ≤ k ∧ v.ownBlock ≠ some k ∧ k < Y.heap.size) (fun k h5 h6 => ⟨h5.1, h5.2, h6⟩)).keep hsz (fun k hk hl => hkeep k hl hk.2.1)).mono fun k hk _ => ⟨hk.1, fun e => by
        rcases hnew k e with h7 | h7
        · exact hk.2.1 h7
        · have := hk.2.2; omega⟩
    · next hi =>
      rw [if_neg hi] at h2
      have h5 : i - ts.length = 0 := by
        have := (List.getElem?_eq_some_iff.1 h1).1
        simpa using this
      rw [h5] at h1 h2
      simp only [List.getElem?_cons_zero, Option.some.injEq] at h1 h2
      subst h1 h2
      have h3 := hd.ext hXY
      exact ((h3.mono (Q := fun k => W.heap.size ≤ k ∧ k < Y.heap.size) (fun k h5 h6 => ⟨h5, h6⟩)).keep hsz (fun k hk hl => hkeep k hl (fun e => by have := hW k e; omega))).mono fun k hk _ => ⟨Nat.le_trans hbW hk.1, fun e => by
        rcases hnew k e with h7 | h7
        · have := hW k h7; have := hk.1; omega
        · have := hk.2; omega⟩
end Go.Proofs.YtnpenepdechkjaaGreatDoor

/- The production's part: an optional part of a rule. -/
namespace Go.Proofs.YtnpenepdechkjaaGreatDoor
open Go Go.RowKit

def trZero : Tr := .nd 0 0 [] []
set_option maxRecDepth 100000 in
theorem ppartS_any {W : World} {b : Nat} {A : Option Addr} {N c : Nat} {toks : List Tk} {a o : Nat} (h : PB W b A N c toks a o) (s : List UInt8) (S : ByteArray) (hS : S = bs s) (hs : s ≠ []) :
    Calls Tryz.prog 78 #[.pointer (some ⟨b, 0, none⟩), .string S, .func (.func 75) #[.pointer (some ⟨b, 0, none⟩)] #[]] W (GP b A N c toks a o (fun _ x v => v = .string (bs x)) W (partP s [] nameP (toks.drop a))) := by
  have HP := Lib.hid h
  have htl := (hd_mem h).2.2
  unfold partP
  by_cases hx : (hd (toks.drop a)).tx = s
  · rw [if_pos hx, htl]
    have HT := Lib.hid (ptake_yes h s S hS hs hx)
    obtain ⟨RES, hRES⟩ : ∃ R, R = (nameP (toks.drop (a + 1))).bind fun x r => (mustP wSemi r).bind fun _ r => PR.ok x r := ⟨_, rfl⟩
    rw [← hRES]
    have HRES := Lib.hid hRES
    clear h hS hs hx htl hRES
    go_enter Tryz.func78, Tryz.ntmps78
    go_upto_region 4 with (first | (go_at_call 117; refine (HT.out).mono ?_; rintro e w1 ⟨rfl, hp1, hm1⟩; have HP1 := Lib.hid hp1; clear hp1))
    have HN := Lib.hid (pname_any HP1.out)
    cases hN : nameP (toks.drop (a + 1)) with
    | bad r er =>
      rw [hN] at HN
      have hres := HRES.out
      rw [hN, PR.bind_bad] at hres
      clear hN HRES
      subst hres
      go_wp2_with (first | (go_at_call 75; refine (HN.out).mono ?_; rintro e w2 ⟨a2, o2, rfl, ha2, hr2, hp2, hm2⟩; have HR2 := Lib.hid hr2; clear hr2))
      exact ⟨rfl, a2, o2, rfl, by omega, HR2.out, hp2, hm1.trans hm2⟩
    | ok x r =>
      rw [hN] at HN
      have hres := HRES.out
      rw [hN, PR.bind_ok] at hres
      clear HRES
      have HRES := Lib.hid hres
      clear hN hres
      go_upto_region 5 with (first | (go_at_call 75; refine (HN.out).mono ?_; rintro e w2 ⟨v2, a2, rfl, rfl, ha2, hr2, hp2, hm2⟩; have HR2 := Lib.hid hr2; have HP2 := Lib.hid hp2; clear hr2 hp2))
      have HM := Lib.hid (pmust_any HP2.out wSemi ⟨#[59]⟩ rfl (by decide))
      have hres := HRES.out
      rw [HR2.out] at hres
      clear HRES
      have HRES := Lib.hid hres
      clear hres
      cases hM : mustP wSemi (toks.drop a2) with
      | bad r er =>
        rw [hM] at HM
        have hres := HRES.out
        rw [hM, PR.bind_bad] at hres
        clear hM HRES
        subst hres
        go_wp2_with (first | (go_at_call 74; refine (HM.out).mono ?_; rintro e w3 ⟨a3, o3, rfl, ha3, hr3, hp3, hm3⟩; have HR3 := Lib.hid hr3; clear hr3))
        exact ⟨rfl, a3, o3, rfl, by omega, HR3.out, hp3, (hm1.trans hm2).trans hm3⟩
      | ok u r =>
        rw [hM] at HM
        have hres := HRES.out
        rw [hM, PR.bind_ok] at hres
        clear hM HRES
        subst hres
        go_wp2_with (first | (go_at_call 74; refine (HM.out).mono ?_; rintro e w3 ⟨v3, a3, rfl, rfl, ha3, hr3, hp3, hm3⟩; have HR3 := Lib.hid hr3; clear hr3))
        go_ret
        exact ⟨_, a3, rfl, rfl, by omega, HR3.out, hp3, (hm1.trans hm2).trans hm3⟩
  · rw [if_neg hx]
    have HT := Lib.hid (ptake_no h s S hS hx)
    clear h hS hs hx htl
    go_enter Tryz.func78, Tryz.ntmps78
    go_wp2_with (first | (go_at_call 117; refine (HT.out).mono ?_; rintro e w1 ⟨rfl, hx1⟩))
    go_ret
    exact ⟨_, a, rfl, rfl, Nat.le_refl _, rfl, HP.out.ext hx1, Mv.of_ext hx1⟩
set_option maxHeartbeats 1000000 in
set_option maxRecDepth 100000 in
theorem ppartN_any (f : Nat) {W : World} {b : Nat} {A : Option Addr} {N c : Nat} {toks : List Tk} {a o : Nat} (h : PB W b A N c toks a o) (ho : o ≤ 12) (hf : 9 * (N - a) + 7 < f) (s : List UInt8) (S : ByteArray) (hS : S = bs s) (hs : s ≠ []) :
    Calls Tryz.prog 79 #[.pointer (some ⟨b, 0, none⟩), .string S, .func (.func 40) #[.pointer (some ⟨b, 0, none⟩)] #[]] W (GP b A N c toks a o (RT W.heap.size) W (partP s trZero (exprP f 1 o) (toks.drop a))) := by
  have HP := Lib.hid h
  have htl := (hd_mem h).2.2
  have hx0 : Ext W ((W.alloc (.cells #[.int .i64 0, .int .i64 0, .string ⟨#[]⟩, .slice none 0 0] 31)).alloc (.cells #[.int .i64 0, .int .i64 0, .string ⟨#[]⟩, .slice none 0 0] 31)) := ((Ext.refl W).alloc _).alloc _
  have HX0 := Lib.hid hx0
  have HN6 := Lib.hid (show NX ((W.alloc (.cells #[.int .i64 0, .int .i64 0, .string ⟨#[]⟩, .slice none 0 0] 31)).alloc (.cells #[.int .i64 0, .int .i64 0, .string ⟨#[]⟩, .slice none 0 0] 31)) W.heap.size 0 0 ⟨#[]⟩ (.slice none 0 0) from NX.mv (b := W.heap.size + 1) (show NX (W.alloc (.cells #[.int .i64 0, .int .i64 0, .string ⟨#[]⟩, .slice none 0 0] 31)) W.heap.size 0 0 ⟨#[]⟩ (.slice none 0 0) from heap_alloc_new _ _) (Mv.of_ext ((Ext.refl _).alloc _)) (by omega))
  have HN7 := Lib.hid (show NX ((W.alloc (.cells #[.int .i64 0, .int .i64 0, .string ⟨#[]⟩, .slice none 0 0] 31)).alloc (.cells #[.int .i64 0, .int .i64 0, .string ⟨#[]⟩, .slice none 0 0] 31)) (W.heap.size + 1) 0 0 ⟨#[]⟩ (.slice none 0 0) from by
    have := heap_alloc_new (W.alloc (.cells #[.int .i64 0, .int .i64 0, .string ⟨#[]⟩, .slice none 0 0] 31)) (.cells #[.int .i64 0, .int .i64 0, .string ⟨#[]⟩, .slice none 0 0] 31)
    simpa [NX] using this)
  have HBW := Lib.hid h.lt
  unfold partP
  by_cases hx : (hd (toks.drop a)).tx = s
  · rw [if_pos hx, htl]
    have HT := Lib.hid (fun X (hX : Ext W X) => ptake_yes (h.ext hX) s S hS hs hx)
    obtain ⟨RES, hRES⟩ : ∃ R, R = (exprP f 1 o (toks.drop (a + 1))).bind fun x r => (mustP wSemi r).bind fun _ r => PR.ok x r := ⟨_, rfl⟩
    rw [← hRES]
    have HRES := Lib.hid hRES
    clear h hS hs hx htl hx0 hRES
    go_enter Tryz.func79, Tryz.ntmps79
    go_upto_region 4 with (first | (go_at_call 117; refine (HT.out _ HX0.out).mono ?_; rintro e w1 ⟨rfl, hp1, hm1⟩; have HP1 := Lib.hid hp1; clear hp1))
    have HE := Lib.hid (pwhole_any f HP1.out ho (by omega))
    have h1s : W.heap.size + 2 ≤ w1.heap.size := by have := hm1.size; simpa using this
    have hmW1 := (Mv.of_ext HX0.out).trans hm1
    have HN61 := Lib.hid (HN6.out.mv hm1 (by have := HBW.out; omega))
    cases hE : exprP f 1 o (toks.drop (a + 1)) with
    | bad r er =>
      rw [hE] at HE
      have hres := HRES.out
      rw [hE, PR.bind_bad] at hres
      clear hE HRES
      subst hres
      go_wp2_with (first | (go_at_call 40; refine (HE.out).mono ?_; rintro e w2 ⟨a2, o2, rfl, ha2, hr2, hp2, hm2⟩; have HR2 := Lib.hid hr2; clear hr2))
      exact ⟨rfl, a2, o2, rfl, by omega, HR2.out, hp2, hmW1.trans hm2⟩
    | ok x r =>
      rw [hE] at HE
      have hres := HRES.out
      rw [hE, PR.bind_ok] at hres
      clear HRES
      have HRES := Lib.hid hres
      clear hE hres
      go_upto_region 5 with (first | (go_at_call 40; refine (HE.out).mono ?_; rintro e w2 ⟨v2, a2, rfl, ⟨d, rfl, hrep⟩, ha2, hr2, hp2, hm2⟩; have HR2 := Lib.hid hr2; have HP2 := Lib.hid hp2; have HREP := Lib.hid hrep; clear hr2 hp2 hrep))
      obtain ⟨w3, hw3⟩ : ∃ w3, w3 = w2.alloc (.cells #[.int .i64 d.k, .int .i64 d.n, .string d.s, .slice d.A d.m d.c] 31) := ⟨_, rfl⟩
      have hx3 : Ext w2 w3 := by rw [hw3]; exact (Ext.refl _).alloc _
      have hn8 : NX w3 w2.heap.size d.k d.n d.s (.slice d.A d.m d.c) := by rw [hw3]; exact heap_alloc_new _ _
      rw [← hw3]
      clear hw3
      have HM := Lib.hid (pmust_any (HP2.out.ext hx3) wSemi ⟨#[59]⟩ rfl (by decide))
      have hres := HRES.out
      rw [HR2.out] at hres
      clear HRES
      have HRES := Lib.hid hres
      clear hres
      cases hM : mustP wSemi (toks.drop a2) with
      | bad r er =>
        rw [hM] at HM
        have hres := HRES.out
        rw [hM, PR.bind_bad] at hres
        clear hM HRES
        subst hres
        go_wp2_with (first | (go_at_call 74; refine (HM.out).mono ?_; rintro e w4 ⟨a3, o3, rfl, ha3, hr3, hp3, hm3⟩; have HR3 := Lib.hid hr3; clear hr3))
        exact ⟨rfl, a3, o3, rfl, by omega, HR3.out, hp3, ((hmW1.trans hm2).trans (Mv.of_ext hx3)).trans hm3⟩
      | ok u r =>
        rw [hM] at HM
        have hres := HRES.out
        rw [hM, PR.bind_ok] at hres
        clear hM HRES
        subst hres
        have hb2 : b < w2.heap.size := HP2.out.lt
        go_upto_region 6 with (first | (go_at_call 74; refine (HM.out).mono ?_; rintro e w4 ⟨v3, a3, rfl, rfl, ha3, hr3, hp3, hm3⟩; have HR3 := Lib.hid hr3; have HP3 := Lib.hid hp3; clear hr3 hp3))
        have h2s := hm2.size
        have hmv24 : Mv b w2 w4 := (Mv.of_ext hx3).trans hm3
        have hn84 := (hn8.mv hm3 (by omega)).nb
        have hn64 := ((HN61.out.mv hm2 (by have := HBW.out; omega)).mv hmv24 (by have := HBW.out; omega)).nb
        have HMV := Lib.hid ((hmW1.trans hm2).trans hmv24)
        have HREP4 := Lib.hid ((HREP.out.mv hmv24 (by have := HP1.out.lt; omega)).mono (Q := fun k => W.heap.size + 1 ≤ k) (fun k h1 _ => by have h9 : w1.heap.size ≤ k := h1; omega))
        clear hn8 hx3 hm1 hm2 hm3 hmv24 hmW1 HN61 HN6 HN7
        obtain ⟨_, d0, d1, d2, d3, _, _, _, _⟩ := hn84
        obtain ⟨_, j0, j1, j2, j3, jf0, jf1, jf2, jf3⟩ := hn64
        go_wp2
        refine bodyPost_ret (v := .agg #[.int .i64 d.k, .int .i64 d.n, .string d.s, .slice d.A d.m d.c]) (by simp [results, Tryz.results79, go_sem, *]) rfl ?_
        exact ⟨_, a3, rfl, ⟨d, rfl, HREP4.out.fin (by omega) _ _ _ _⟩, by omega, HR3.out, HP.out.fin HP3.out _ _ _ _, HMV.out.fin _ _ _ _⟩
  · rw [if_neg hx]
    have HT := Lib.hid (fun X (hX : Ext W X) => ptake_no (h.ext hX) s S hS hx)
    clear h hS hs hx htl hx0
    go_enter Tryz.func79, Tryz.ntmps79
    go_upto_region 3 with (first | (go_at_call 117; refine (HT.out _ HX0.out).mono ?_; rintro e w1 ⟨rfl, hx1⟩))
    have hn6 := (HN6.out.mv (b := b) (Mv.of_ext hx1) (by have := HBW.out; omega)).nb
    have hn7 := (HN7.out.mv (b := b) (Mv.of_ext hx1) (by have := HBW.out; omega)).nb
    have HXW := Lib.hid (HX0.out.trans hx1)
    clear hx1 HN6 HN7
    obtain ⟨_, d0, d1, d2, d3, _, _, _, _⟩ := hn7
    obtain ⟨_, j0, j1, j2, j3, jf0, jf1, jf2, jf3⟩ := hn6
    go_wp2
    refine bodyPost_ret (v := .agg #[.int .i64 0, .int .i64 0, .string ⟨#[]⟩, .slice none 0 0]) (by simp [results, Tryz.results79, go_sem, *]) rfl ?_
    exact ⟨_, a, rfl, ⟨⟨0, 0, ⟨#[]⟩, none, 0, 0⟩, rfl, Rep.leaf _ _ 0 0 []⟩, Nat.le_refl _, rfl, HP.out.fin (HP.out.ext HXW.out) _ _ _ _, (Mv.of_ext HXW.out).fin _ _ _ _⟩
end Go.Proofs.YtnpenepdechkjaaGreatDoor
