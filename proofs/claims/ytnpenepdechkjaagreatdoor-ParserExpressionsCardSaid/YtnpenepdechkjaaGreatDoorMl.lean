/- The reference's expr, for every source. -/
import Derived.Test.YtnpenepdechkjaaGreatDoorYk
namespace Go.Proofs.YtnpenepdechkjaaGreatDoor
open Go Go.RowKit

section
variable {α : Type} {W W' X : World} {b : Nat} {A : Option Addr} {N c : Nat} {toks : List Tk} {o : Nat} {q : PR α}
set_option maxHeartbeats 4000000 in
set_option maxRecDepth 100000 in
theorem rexpr3_any {E : Nat → Nat → List Tk → PR Tr} {M : Nat} (hE : RE E M) {x : α} {r : List Tk} (h : SP W b A N c toks o (.ok x r)) (ho : o ≤ 12) (n : Nat) (hn : r.length ≤ n + 1) (hM : 9 * (n + 1) + 4 < M) (q2 : PR (α × Tr)) (hq2 : q2 = if (hd r).tx = wNot then unB E 3 o wNot (.ok x r) else exB E 4 o (.ok x r)) :
    Calls Tryz.prog 41 #[.pointer (some ⟨b, 0, none⟩), .int .i64 3] W (NdPost W b A N c toks o q2) := by
  have HH := Lib.hid h
  have HQ2 := Lib.hid hq2
  have hbl := h.lt
  have hL : LL (n + 1) (PR.ok x r) := fun y r' he => by obtain ⟨_, rfl⟩ := PR.ok_inj he; exact hn
  have HUN := Lib.hid (fun X (hX : SP X b A N c toks o (PR.ok x r)) => (show Calls Tryz.prog 89 #[.pointer (some ⟨b, 0, none⟩), .string ⟨#[110, 111, 116]⟩, .int .i64 3] X (NdPost X b A N c toks o (unB E 3 o wNot (.ok x r))) from runary_any hE hX ho wNot ⟨#[110, 111, 116]⟩ rfl (by decide) 3 n (by decide) (by decide) hL (by omega)))
  have HE4 := Lib.hid (fun X (hX : SP X b A N c toks o (PR.ok x r)) => (show Calls Tryz.prog 41 #[.pointer (some ⟨b, 0, none⟩), .int .i64 4] X (NdPost X b A N c toks o (exB E 4 o (.ok x r))) from hE.2 α X b A N c toks o 4 (n + 1) _ hX (by decide) (by decide) hL (by omega)))
  have HX := Lib.hid ((Ext.refl W).alloc (.cells #[.int .i64 0, .int .i64 0, .string ⟨#[]⟩, .slice none 0 0] 31))
  clear h hn hM hL hq2
  go_enter Tryz.func41, Tryz.ntmps41
  go_upto_region 1 with (fail)
  have q4 := NX.new W 0 0 ⟨#[]⟩ (.slice none 0 0)
  have hz0 : W.heap.size + 1 ≤ (W.alloc (.cells #[.int .i64 0, .int .i64 0, .string ⟨#[]⟩, .slice none 0 0] 31)).heap.size := by simp
  generalize W.alloc (.cells #[.int .i64 0, .int .i64 0, .string ⟨#[]⟩, .slice none 0 0] 31) = w1 at *
  have HN1 := Lib.hid q4
  have HP1 := Lib.hid (HH.out.ext HX.out)
  have c3 : w1.cell? ⟨b, 3, none⟩ = some (.int .i64 0) := by
    obtain ⟨_, a, _, hs⟩ := HP1.out
    exact hs.c3
  clear q4
  go_wp2_with fail
  refine (is_any HP1.out wNot ⟨#[110, 111, 116]⟩ rfl).mono ?_
  rintro e w2 ⟨he, hx2⟩
  rw [isP_ok] at he
  have HP2 := Lib.hid (HP1.out.ext hx2)
  have HN2 := Lib.hid (HN1.out.mv (Mv.of_ext (b := b) hx2) (by omega))
  have HM2 := Lib.hid (Mv.of_ext (b := b) (HX.out.trans hx2))
  have hz2 := Nat.le_trans hz0 hx2.lt
  clear hx2 c3
  by_cases hnot : (hd r).tx = wNot
  · rw [decide_eq_true hnot] at he
    subst he
    have HQ := Lib.hid (show q2 = unB E 3 o wNot (.ok x r) by rw [HQ2.out, if_pos hnot])
    clear hnot
    go_wp2_with fail
    refine (HUN.out _ HP2.out).mono ?_
    rintro e w3 ⟨d, t, rfl, hr, hp, hm, hv⟩
    have HP3 := Lib.hid hp
    have HV3 := Lib.hid hv
    have HM3 := Lib.hid (HM2.out.trans hm)
    have HR3 := Lib.hid (hr.mono (Q := fun j => W.heap.size + 1 ≤ j) (fun j h1 _ => by omega))
    obtain ⟨l4, x1, x2, x3, x4, x5, x6, x7, x8⟩ := (HN2.out.mv hm (by omega)).nb
    clear hp hv hm hr
    go_wp2
    refine bodyPost_ret (v := .agg #[.int .i64 d.k, .int .i64 d.n, .string d.s, .slice d.A d.m d.c]) (by simp [results, Tryz.results41, go_sem, *]) rfl ?_
    rw [HQ.out]
    exact NdPost.fin HH.out d t HR3.out HP3.out HM3.out HV3.out
  · rw [decide_eq_false hnot] at he
    subst he
    have HQ := Lib.hid (show q2 = exB E 4 o (.ok x r) by rw [HQ2.out, if_neg hnot])
    clear hnot
    go_wp2_with fail
    refine (HE4.out _ HP2.out).mono ?_
    rintro e w3 ⟨d, t, rfl, hr, hp, hm, hv⟩
    have HP3 := Lib.hid hp
    have HV3 := Lib.hid hv
    have HM3 := Lib.hid (HM2.out.trans hm)
    have HR3 := Lib.hid (hr.mono (Q := fun j => W.heap.size + 1 ≤ j) (fun j h1 _ => by omega))
    obtain ⟨l4, x1, x2, x3, x4, x5, x6, x7, x8⟩ := (HN2.out.mv hm (by omega)).nb
    clear hp hv hm hr
    go_wp2
    refine bodyPost_ret (v := .agg #[.int .i64 d.k, .int .i64 d.n, .string d.s, .slice d.A d.m d.c]) (by simp [results, Tryz.results41, go_sem, *]) rfl ?_
    rw [HQ.out]
    exact NdPost.fin HH.out d t HR3.out HP3.out HM3.out HV3.out
set_option maxHeartbeats 4000000 in
set_option maxRecDepth 100000 in
theorem rexpr7_any {E E' : Nat → Nat → List Tk → PR Tr} {M M' : Nat} (hE : RE E M) (hE' : RE E' M') {x : α} {r : List Tk} (h : SP W b A N c toks o (.ok x r)) (ho : o ≤ 12) (n : Nat) (hn : r.length ≤ n + 1) (hM : 9 * n + 1 < M) (hM' : 9 * n + 7 < M') (q2 : PR (α × Tr)) (hq2 : q2 = if (hd r).tx = wMinus then unB E 7 o wMinus (.ok x r) else prB E' o x r) :
    Calls Tryz.prog 41 #[.pointer (some ⟨b, 0, none⟩), .int .i64 7] W (NdPost W b A N c toks o q2) := by
  have HH := Lib.hid h
  have HQ2 := Lib.hid hq2
  have hbl := h.lt
  have hL : LL (n + 1) (PR.ok x r) := fun y r' he => by obtain ⟨_, rfl⟩ := PR.ok_inj he; exact hn
  have HUN := Lib.hid (fun X (hX : SP X b A N c toks o (PR.ok x r)) => (show Calls Tryz.prog 89 #[.pointer (some ⟨b, 0, none⟩), .string ⟨#[45]⟩, .int .i64 7] X (NdPost X b A N c toks o (unB E 7 o wMinus (.ok x r))) from runary_any hE hX ho wMinus ⟨#[45]⟩ rfl (by decide) 7 n (by decide) (by decide) hL (by omega)))
  have HPR := Lib.hid (fun X (hX : SP X b A N c toks o (PR.ok x r)) => rprim_any hE' hX ho n hn hM')
  have HX := Lib.hid ((Ext.refl W).alloc (.cells #[.int .i64 0, .int .i64 0, .string ⟨#[]⟩, .slice none 0 0] 31))
  clear h hn hM hM' hL hq2
  go_enter Tryz.func41, Tryz.ntmps41
  go_upto_region 1 with (fail)
  have q4 := NX.new W 0 0 ⟨#[]⟩ (.slice none 0 0)
  have hz0 : W.heap.size + 1 ≤ (W.alloc (.cells #[.int .i64 0, .int .i64 0, .string ⟨#[]⟩, .slice none 0 0] 31)).heap.size := by simp
  generalize W.alloc (.cells #[.int .i64 0, .int .i64 0, .string ⟨#[]⟩, .slice none 0 0] 31) = w1 at *
  have HN1 := Lib.hid q4
  have HP1 := Lib.hid (HH.out.ext HX.out)
  have c3 : w1.cell? ⟨b, 3, none⟩ = some (.int .i64 0) := by
    obtain ⟨_, a, _, hs⟩ := HP1.out
    exact hs.c3
  clear q4
  go_wp2_with fail
  refine (is_any HP1.out wMinus ⟨#[45]⟩ rfl).mono ?_
  rintro e w2 ⟨he, hx2⟩
  rw [isP_ok] at he
  have HP2 := Lib.hid (HP1.out.ext hx2)
  have HN2 := Lib.hid (HN1.out.mv (Mv.of_ext (b := b) hx2) (by omega))
  have HM2 := Lib.hid (Mv.of_ext (b := b) (HX.out.trans hx2))
  have hz2 := Nat.le_trans hz0 hx2.lt
  clear hx2 c3
  by_cases hnot : (hd r).tx = wMinus
  · rw [decide_eq_true hnot] at he
    subst he
    have HQ := Lib.hid (show q2 = unB E 7 o wMinus (.ok x r) by rw [HQ2.out, if_pos hnot])
    clear hnot
    go_wp2_with fail
    refine (HUN.out _ HP2.out).mono ?_
    rintro e w3 ⟨d, t, rfl, hr, hp, hm, hv⟩
    have HP3 := Lib.hid hp
    have HV3 := Lib.hid hv
    have HM3 := Lib.hid (HM2.out.trans hm)
    have HR3 := Lib.hid (hr.mono (Q := fun j => W.heap.size + 1 ≤ j) (fun j h1 _ => by omega))
    obtain ⟨l4, x1, x2, x3, x4, x5, x6, x7, x8⟩ := (HN2.out.mv hm (by omega)).nb
    clear hp hv hm hr
    go_wp2
    refine bodyPost_ret (v := .agg #[.int .i64 d.k, .int .i64 d.n, .string d.s, .slice d.A d.m d.c]) (by simp [results, Tryz.results41, go_sem, *]) rfl ?_
    rw [HQ.out]
    exact NdPost.fin HH.out d t HR3.out HP3.out HM3.out HV3.out
  · rw [decide_eq_false hnot] at he
    subst he
    have HQ := Lib.hid (show q2 = prB E' o x r by rw [HQ2.out, if_neg hnot])
    clear hnot
    go_wp2_with fail
    refine (HPR.out _ HP2.out).mono ?_
    rintro e w3 ⟨d, t, rfl, hr, hp, hm, hv⟩
    have HP3 := Lib.hid hp
    have HV3 := Lib.hid hv
    have HM3 := Lib.hid (HM2.out.trans hm)
    have HR3 := Lib.hid (hr.mono (Q := fun j => W.heap.size + 1 ≤ j) (fun j h1 _ => by omega))
    obtain ⟨l4, x1, x2, x3, x4, x5, x6, x7, x8⟩ := (HN2.out.mv hm (by omega)).nb
    clear hp hv hm hr
    go_wp2
    refine bodyPost_ret (v := .agg #[.int .i64 d.k, .int .i64 d.n, .string d.s, .slice d.A d.m d.c]) (by simp [results, Tryz.results41, go_sem, *]) rfl ?_
    rw [HQ.out]
    exact NdPost.fin HH.out d t HR3.out HP3.out HM3.out HV3.out
end
theorem rexpr_any : ∀ f, RE (exprP f) f := by
  intro f
  induction f using Nat.strongRecOn with
  | ind f ih =>
  cases f with
  | zero => exact ⟨fun lv o r t r' _ h => (by cases h), fun α W b A N c toks o lv n q h hl1 hl7 hn hM => (by omega)⟩
  | succ f =>
  refine ⟨fun lv o r t r' h1 h => (by have := expr_sz (f + 1) lv o r t r' h1 h; omega), fun α W b A N c toks o lv n q h hl1 hl7 hn hM => ?_⟩
  have hE := ih f (Nat.lt_succ_self f)
  cases q with
  | bad r e => exact rexpr_bad h lv
  | ok x r =>
  have hr := hn x r rfl
  have ho := h.1
  have hr1 : 1 ≤ r.length := by
    obtain ⟨_, a, rfl, hs⟩ := h
    simp only [List.length_drop]; have := hs.at_; have := hs.len; omega
  obtain ⟨m, rfl⟩ : ∃ m, n = m + 1 := ⟨n - 1, by omega⟩
  by_cases h3 : lv = 3
  · subst h3
    refine rexpr3_any hE h ho m hr (by omega) _ ?_
    rw [exB, PR.bind_ok, exprP]
    by_cases hnot : (hd r).tx = wNot
    · rw [if_pos hnot, stepP, if_pos (.inl ⟨rfl, hnot⟩), hnot, unB_eq, PR.bind_ok]
    · rw [if_neg hnot, stepP, if_neg (by rintro (⟨_, e⟩ | ⟨e, _⟩); exact hnot e; exact absurd e (by decide)), if_neg (by decide), exB, PR.bind_ok, PR.bind_assoc]
      congr 1
      funext t r2
      rw [loop_skip (.inl rfl)]; rfl
  by_cases h7 : lv = 7
  · subst h7
    obtain ⟨f', rfl⟩ : ∃ f', f = f' + 1 := ⟨f - 1, by omega⟩
    have hE' := ih f' (by omega)
    refine rexpr7_any hE hE' h ho m hr (by omega) (by omega) _ ?_
    rw [exB, PR.bind_ok, exprP]
    by_cases hnot : (hd r).tx = wMinus
    · rw [if_pos hnot, stepP, if_pos (.inr ⟨rfl, hnot⟩), hnot, unB_eq, PR.bind_ok]
    · rw [if_neg hnot, stepP, if_neg (by rintro (⟨e, _⟩ | ⟨_, e⟩); exact absurd e (by decide); exact hnot e), if_neg (by decide), prB, PR.bind_assoc]
      rw [show exprP (f' + 1) (7 + 1) o r = primP (exprP f') o r from by
        rw [exprP, stepP, if_neg (by rintro (⟨e, _⟩ | ⟨e, _⟩) <;> exact absurd e (by decide)), if_pos rfl]]
      congr 1
      funext t r2
      rw [loop_skip (.inr rfl)]; rfl
  have hlv : lv ∈ [1, 2, 4, 5, 6] := by simp only [List.mem_cons, List.not_mem_nil, or_false]; omega
  have h9 := rexpr_loop hE h lv (m + 1) hlv hr (by omega)
  have e9 : exB (exprP (f + 1)) lv o (PR.ok x r) = ((exB (exprP f) (lv + 1) o (PR.ok x r)).bind fun y r2 => (loopP (exprP f) lv o r2.length y.2 r2).bind fun t r3 => PR.ok (y.1, t) r3) := by
    rw [exB, PR.bind_ok, exprP, stepP, if_neg (by rintro (⟨e, _⟩ | ⟨e, _⟩); exact h3 e; exact h7 e), if_neg (by omega), exB, PR.bind_ok]
    simp only [PR.bind_assoc, PR.bind_ok]
  rw [e9]; exact h9
end Go.Proofs.YtnpenepdechkjaaGreatDoor
