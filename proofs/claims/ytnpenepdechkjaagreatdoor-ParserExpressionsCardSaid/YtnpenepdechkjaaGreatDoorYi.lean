/- The reference's primary. -/
import Derived.Test.YtnpenepdechkjaaGreatDoorMj
namespace Go.Proofs.YtnpenepdechkjaaGreatDoor
open Go Go.RowKit

theorem fieldNm2 (x0 x1 x2 : Value) (z : Int) (w : World) : (Instr.field 46 (.agg #[x0, x1, x2, .int .i64 z]) 3).run Tryz.prog w = .ok (.int .i64 z) w := by simp [Instr.field, go_sem, asAgg]
section
variable {α : Type} {W W' X : World} {b : Nat} {A : Option Addr} {N c : Nat} {toks : List Tk} {o : Nat} {q : PR α}
theorem NdPost.fin {β γ : Type} {o0 : Nat} {q0 : PR β} (h0 : SP W b A N c toks o0 q0) {q2 : PR (γ × Tr)} (d : Nd) (t : Tr) (hr : Rep X (fun j => W.heap.size + 1 ≤ j) d t) (hp : SP X b A N c toks o q2) (hm : Mv b W X) (hv : ∀ x t' r, q2 = .ok (x, t') r → t = t') :
    NdPost W b A N c toks o q2 (.returned (.agg #[.int .i64 d.k, .int .i64 d.n, .string d.s, .slice d.A d.m d.c])) (fin4 X W.heap.size (.int .i64 d.k) (.int .i64 d.n) (.string d.s) (.slice d.A d.m d.c)) :=
  ⟨d, t, rfl, Rep.fin hr (by omega) _ _ _ _, h0.fin hp _ _ _ _, hm.fin _ _ _ _, hv⟩
def prB (E : Nat → Nat → List Tk → PR Tr) (o : Nat) (x : α) (r : List Tk) : PR (α × Tr) := (primP E o r).bind fun t r => .ok (x, t) r
theorem isP_ok (s : List UInt8) (x : α) (r : List Tk) : isP s (PR.ok x r) = decide ((hd r).tx = s) := rfl
theorem takeP_ok {s : List UInt8} {x : α} {r : List Tk} (h : (hd r).tx = s) : takeP s (PR.ok x r) = .ok x r.tail := if_pos h
set_option maxHeartbeats 8000000 in
set_option maxRecDepth 100000 in
theorem rprim_any {E : Nat → Nat → List Tk → PR Tr} {M : Nat} (hE : RE E M) {x : α} {r : List Tk} (h : SP W b A N c toks o (.ok x r)) (ho : o ≤ 12) (n0 : Nat) (hn : r.length ≤ n0 + 1) (hM : 9 * n0 + 7 < M) :
    Calls Tryz.prog 90 #[.pointer (some ⟨b, 0, none⟩)] W (NdPost W b A N c toks o (prB E o x r)) := by
  have HH := Lib.hid h
  have HBL := Lib.hid h.lt
  have hoI : (o : Int) ≤ 12 := by omega
  have HO := Lib.hid ho
  have HN0 := Lib.hid hn
  obtain ⟨ho2, a, rfl, hs⟩ := h
  have HS := Lib.hid hs
  obtain ⟨g, off, t, rfl, hg, _, htm, h4, _, k0, k1, k2, k3⟩ := hs.tk
  have HT := Lib.hid h4
  have HTM := Lib.hid htm
  have hlt := hs.lt
  obtain ⟨S, hSS⟩ : ∃ S, S = bs t.tx := ⟨_, rfl⟩
  rw [← hSS] at k2
  have HSS := Lib.hid hSS
  have HX := Lib.hid ((Ext.refl W).alloc (.cells #[.int .i64 0, .int .i64 0, .string ⟨#[]⟩, .slice none 0 0] 31))
  have c0 := (hs.ext HX.out).c0
  have c1 := (hs.ext HX.out).c1
  have e0 := (HX.out.cells.1 g (off + a * 4) hg).trans k0
  have e1 := (HX.out.cells.1 g (off + a * 4 + 1) hg).trans k1
  have e2 := (HX.out.cells.1 g (off + a * 4 + 2) hg).trans k2
  have e3 := (HX.out.cells.1 g (off + a * 4 + 3) hg).trans k3
  have haI : (a : Int) < (N : Int) := by have := hs.at_; omega
  obtain ⟨kd, hkd⟩ : ∃ z, z = t.kd := ⟨_, rfl⟩
  obtain ⟨at_, hat⟩ : ∃ z, z = t.at_ := ⟨_, rfl⟩
  obtain ⟨nm, hnm⟩ : ∃ z, z = t.nm := ⟨_, rfl⟩
  rw [← hkd] at e0
  rw [← hat] at e1
  rw [← hnm] at e3
  have HK := Lib.hid (And.intro hkd (And.intro hat hnm))
  clear hs h4 k0 k1 k2 k3 hSS hkd hat hnm htm hn
  go_enter Tryz.func90, Tryz.ntmps90
  go_upto_region 1 with (fail)
  have hlt1 : b < (W.alloc (.cells #[.int .i64 0, .int .i64 0, .string ⟨#[]⟩, .slice none 0 0] 31)).heap.size := by simp; omega
  have hg1 : g < (W.alloc (.cells #[.int .i64 0, .int .i64 0, .string ⟨#[]⟩, .slice none 0 0] 31)).heap.size := Nat.lt_of_lt_of_le hg HX.out.lt
  have q4 := NX.new W 0 0 ⟨#[]⟩ (.slice none 0 0)
  have hwz : W.heap.size + 1 = (W.alloc (.cells #[.int .i64 0, .int .i64 0, .string ⟨#[]⟩, .slice none 0 0] 31)).heap.size := by simp
  generalize W.alloc (.cells #[.int .i64 0, .int .i64 0, .string ⟨#[]⟩, .slice none 0 0] 31) = w1 at *
  obtain ⟨g4, hg5⟩ : ∃ g4, g4 = W.heap.size := ⟨_, rfl⟩
  have HG4 := Lib.hid hg5
  rw [← hg5] at q4 hwz ⊢
  rw [← hg5] at hlt hg
  clear hg5
  go_cut [3] (fun s5 wx => s5 = .pointer (some ⟨w1.heap.size, 0, none⟩) ∧ wx = w1.drew.alloc (.cells #[.int .i64 kd, .int .i64 at_, .string S, .int .i64 nm] 46))
  case first =>
    clear hwz q4
    go_region
    all_goals
      go_wp2
      go_meet
      case rel => exact ⟨rfl, rfl⟩
  case rest =>
  obtain ⟨rfl, hwc⟩ := hcut
  have hx5 : Ext w1 wc := by rw [hwc]; exact (Ext.refl _).drew.alloc _
  have q5 : TX wc w1.heap.size kd at_ S nm := by rw [hwc]; exact heap_alloc_new w1.drew _
  have HN0' := Lib.hid (q4.mv (Mv.of_ext (b := b) hx5) (by omega))
  have HT0 := Lib.hid q5
  have HP0 := Lib.hid ((HH.out.ext HX.out).ext hx5)
  have HM0 := Lib.hid (Mv.of_ext (b := b) (HX.out.trans hx5))
  have hne5 : b ≠ w1.heap.size := by omega
  have hne45 : g4 ≠ w1.heap.size := by omega
  have hne4 : b ≠ g4 := by omega
  have hw0 : g4 + 1 ≤ wc.heap.size := by have := hx5.lt; omega
  clear q4 q5 hwc hx5 c0 c1 e0 e1 e2 e3 hlt1 hg1 HX hwz
  generalize w1.heap.size = g5 at *
  obtain ⟨l5, d0, d1, d2, d3, _, _, _, _⟩ := HT0.out.cs
  obtain ⟨l4, x1, x2, x3, x4, x5, x6, x7, x8⟩ := HN0'.out.nb
  have hfd := fieldNm2
  have hfe := fieldTx
  by_cases hk2 : kd = 2
  · have t2 : (kd == 2) = true := by rw [beq_iff_eq]; exact hk2
    have htk : tokB 2 (PR.ok x (toks.drop a)) = .ok (x, t) (toks.drop (a + 1)) := by rw [tokB, PR.bind_ok, tokP, HT.out, if_pos (by rw [← HK.out.1]; exact hk2), PR.bind_ok, HS.out.hd_mem.2.2]
    have HPR := Lib.hid (show prB E o x (toks.drop a) = .ok (x, .nd 1 t.nm [] []) (toks.drop (a + 1)) by rw [prB, primP, if_pos (by rw [HT.out, ← HK.out.1]; exact hk2), PR.bind_ok, HT.out, HS.out.hd_mem.2.2])
    have HTK := Lib.hid htk
    clear htk hk2
    go_wp2_with fail
    refine (rtoken_any HP0.out 2 (by decide)).mono ?_
    rintro e u1 ⟨t6, rfl, hp, hm, hv⟩
    obtain rfl : t6 = t := hv x t _ HTK.out
    rw [HTK.out] at hp
    have HN1 := Lib.hid (HN0'.out.mv hm (fun e => hne4 e.symm))
    have HT1 := Lib.hid (HT0.out.mv hm (fun e => hne5 e.symm))
    have HM1 := Lib.hid (HM0.out.trans hm)
    have hw1 : g4 + 1 ≤ u1.heap.size := Nat.le_trans hw0 hm.size
    have HP1 := Lib.hid hp
    clear l5 d0 d1 d2 d3 l4 x1 x2 x3 x4 x5 x6 x7 x8
    obtain ⟨l5, d0, d1, d2, d3, _, _, _, _⟩ := HT1.out.cs
    obtain ⟨l4, x1, x2, x3, x4, x5, x6, x7, x8⟩ := HN1.out.nb
    clear hp hm hv
    go_wp2
    refine bodyPost_ret (v := .agg #[.int .i64 1, .int .i64 t6.nm, .string ⟨#[]⟩, .slice none 0 0]) (by simp [results, Tryz.results90, go_sem, *]) rfl ?_
    rw [HG4.out, HPR.out]
    exact NdPost.fin HH.out ⟨1, t6.nm, ⟨#[]⟩, none, 0, 0⟩ (.nd 1 t6.nm [] []) (Rep.leaf _ _ 1 t6.nm []) HP1.out HM1.out (fun x2 t2 r2 he => by injection he with he _; injection he)
  have t2 : (kd == 2) = false := by rw [beq_eq_false_iff_ne]; exact hk2
  by_cases hk3 : kd = 3
  · have t3 : (kd == 3) = true := by rw [beq_iff_eq]; exact hk3
    have htk : tokB 3 (PR.ok x (toks.drop a)) = .ok (x, t) (toks.drop (a + 1)) := by rw [tokB, PR.bind_ok, tokP, HT.out, if_pos (by rw [← HK.out.1]; exact hk3), PR.bind_ok, HS.out.hd_mem.2.2]
    have HPR := Lib.hid (show prB E o x (toks.drop a) = .ok (x, .nd 3 t.nm [] []) (toks.drop (a + 1)) by rw [prB, primP, if_neg (by rw [HT.out, ← HK.out.1]; exact hk2), if_pos (by rw [HT.out, ← HK.out.1]; exact hk3), PR.bind_ok, HT.out, HS.out.hd_mem.2.2])
    have HTK := Lib.hid htk
    clear htk hk3
    go_wp2_with fail
    refine (rtoken_any HP0.out 3 (by decide)).mono ?_
    rintro e u1 ⟨t6, rfl, hp, hm, hv⟩
    obtain rfl : t6 = t := hv x t _ HTK.out
    rw [HTK.out] at hp
    have HN1 := Lib.hid (HN0'.out.mv hm (fun e => hne4 e.symm))
    have HT1 := Lib.hid (HT0.out.mv hm (fun e => hne5 e.symm))
    have HM1 := Lib.hid (HM0.out.trans hm)
    have hw1 : g4 + 1 ≤ u1.heap.size := Nat.le_trans hw0 hm.size
    have HP1 := Lib.hid hp
    clear l5 d0 d1 d2 d3 l4 x1 x2 x3 x4 x5 x6 x7 x8
    obtain ⟨l5, d0, d1, d2, d3, _, _, _, _⟩ := HT1.out.cs
    obtain ⟨l4, x1, x2, x3, x4, x5, x6, x7, x8⟩ := HN1.out.nb
    clear hp hm hv
    go_wp2
    refine bodyPost_ret (v := .agg #[.int .i64 3, .int .i64 t6.nm, .string ⟨#[]⟩, .slice none 0 0]) (by simp [results, Tryz.results90, go_sem, *]) rfl ?_
    rw [HG4.out, HPR.out]
    exact NdPost.fin HH.out ⟨3, t6.nm, ⟨#[]⟩, none, 0, 0⟩ (.nd 3 t6.nm [] []) (Rep.leaf _ _ 3 t6.nm []) HP1.out HM1.out (fun x2 t2 r2 he => by injection he with he _; injection he)
  have t3 : (kd == 3) = false := by rw [beq_eq_false_iff_ne]; exact hk3
  have HNK := Lib.hid (show (hd (toks.drop a)).kd ≠ 2 ∧ (hd (toks.drop a)).kd ≠ 3 from ⟨by rw [HT.out, ← HK.out.1]; exact hk2, by rw [HT.out, ← HK.out.1]; exact hk3⟩)
  clear hk2 hk3
  have HD : (hd (toks.drop a)).tx = t.tx := by rw [HT.out]
  by_cases ny0 : t.tx = wTrue
  · have HYES := Lib.hid (show isP wTrue (PR.ok x (toks.drop a)) = true from decide_eq_true (by rw [HD]; exact ny0))
    have HPR := Lib.hid (show prB E o x (toks.drop a) = .ok (x, .nd 2 1 [] []) (toks.drop (a + 1)) by rw [prB, primP, if_neg HNK.out.1, if_neg HNK.out.2, if_pos (by rw [HD]; exact ny0), PR.bind_ok, HS.out.hd_mem.2.2])
    have HTKP := Lib.hid (show takeP wTrue (PR.ok x (toks.drop a)) = .ok x (toks.drop (a + 1)) by rw [takeP_ok (by rw [HD]; exact ny0), HS.out.hd_mem.2.2])
    clear HD ny0
    go_wp2_with fail
    refine (rtake_any HP0.out wTrue ⟨#[116, 114, 117, 101]⟩ rfl (by decide)).mono ?_
    rintro e u1 ⟨he, hp, hm⟩
    rw [HYES.out] at he
    subst he
    rw [HTKP.out] at hp
    have HN1 := Lib.hid (HN0'.out.mv hm (fun e => hne4 e.symm))
    have HT1 := Lib.hid (HT0.out.mv hm (fun e => hne5 e.symm))
    have HM1 := Lib.hid (HM0.out.trans hm)
    have hw1 : g4 + 1 ≤ u1.heap.size := Nat.le_trans hw0 hm.size
    have HP1 := Lib.hid hp
    clear l5 d0 d1 d2 d3 l4 x1 x2 x3 x4 x5 x6 x7 x8
    obtain ⟨l5, d0, d1, d2, d3, _, _, _, _⟩ := HT1.out.cs
    obtain ⟨l4, x1, x2, x3, x4, x5, x6, x7, x8⟩ := HN1.out.nb
    clear hp hm
    go_wp2
    refine bodyPost_ret (v := .agg #[.int .i64 2, .int .i64 1, .string ⟨#[]⟩, .slice none 0 0]) (by simp [results, Tryz.results90, go_sem, *]) rfl ?_
    rw [HG4.out, HPR.out]
    exact NdPost.fin HH.out ⟨2, 1, ⟨#[]⟩, none, 0, 0⟩ (.nd 2 1 [] []) (Rep.leaf _ _ 2 1 []) HP1.out HM1.out (fun x2 t2 r2 he => by injection he with he _; injection he)
  have HNO0 := Lib.hid (show isP wTrue (PR.ok x (toks.drop a)) = false from decide_eq_false (by rw [HD]; exact ny0))
  by_cases ny1 : t.tx = wFalse
  · have HYES := Lib.hid (show isP wFalse (PR.ok x (toks.drop a)) = true from decide_eq_true (by rw [HD]; exact ny1))
    have HPR := Lib.hid (show prB E o x (toks.drop a) = .ok (x, .nd 2 0 [] []) (toks.drop (a + 1)) by rw [prB, primP, if_neg HNK.out.1, if_neg HNK.out.2, if_neg (by rw [HD]; exact ny0), if_pos (by rw [HD]; exact ny1), PR.bind_ok, HS.out.hd_mem.2.2])
    have HTKP := Lib.hid (show takeP wFalse (PR.ok x (toks.drop a)) = .ok x (toks.drop (a + 1)) by rw [takeP_ok (by rw [HD]; exact ny1), HS.out.hd_mem.2.2])
    clear HD ny1
    go_wp2_with fail
    refine (rtake_any HP0.out wTrue ⟨#[116, 114, 117, 101]⟩ rfl (by decide)).mono ?_
    rintro e u1 ⟨he, hp, hm⟩
    rw [HNO0.out] at he
    subst he
    rw [take_no HNO0.out] at hp
    have HN1 := Lib.hid (HN0'.out.mv hm (fun e => hne4 e.symm))
    have HT1 := Lib.hid (HT0.out.mv hm (fun e => hne5 e.symm))
    have HM1 := Lib.hid (HM0.out.trans hm)
    have hw1 : g4 + 1 ≤ u1.heap.size := Nat.le_trans hw0 hm.size
    have HP1 := Lib.hid hp
    clear l5 d0 d1 d2 d3 l4 x1 x2 x3 x4 x5 x6 x7 x8
    obtain ⟨l5, d0, d1, d2, d3, _, _, _, _⟩ := HT1.out.cs
    obtain ⟨l4, x1, x2, x3, x4, x5, x6, x7, x8⟩ := HN1.out.nb
    clear hp hm
    go_wp2_with fail
    refine (rtake_any HP1.out wFalse ⟨#[102, 97, 108, 115, 101]⟩ rfl (by decide)).mono ?_
    rintro e u2 ⟨he, hp, hm⟩
    rw [HYES.out] at he
    subst he
    rw [HTKP.out] at hp
    have HN2 := Lib.hid (HN1.out.mv hm (fun e => hne4 e.symm))
    have HT2 := Lib.hid (HT1.out.mv hm (fun e => hne5 e.symm))
    have HM2 := Lib.hid (HM1.out.trans hm)
    have hw2 : g4 + 1 ≤ u2.heap.size := Nat.le_trans hw1 hm.size
    have HP2 := Lib.hid hp
    clear l5 d0 d1 d2 d3 l4 x1 x2 x3 x4 x5 x6 x7 x8
    obtain ⟨l5, d0, d1, d2, d3, _, _, _, _⟩ := HT2.out.cs
    obtain ⟨l4, x1, x2, x3, x4, x5, x6, x7, x8⟩ := HN2.out.nb
    clear hp hm
    go_wp2
    refine bodyPost_ret (v := .agg #[.int .i64 2, .int .i64 0, .string ⟨#[]⟩, .slice none 0 0]) (by simp [results, Tryz.results90, go_sem, *]) rfl ?_
    rw [HG4.out, HPR.out]
    exact NdPost.fin HH.out ⟨2, 0, ⟨#[]⟩, none, 0, 0⟩ (.nd 2 0 [] []) (Rep.leaf _ _ 2 0 []) HP2.out HM2.out (fun x2 t2 r2 he => by injection he with he _; injection he)
  have HNO1 := Lib.hid (show isP wFalse (PR.ok x (toks.drop a)) = false from decide_eq_false (by rw [HD]; exact ny1))
  by_cases ny2 : t.tx = wOpen
  · have HYES := Lib.hid (show isP wOpen (PR.ok x (toks.drop a)) = true from decide_eq_true (by rw [HD]; exact ny2))
    have HPR := Lib.hid (show prB E o x (toks.drop a) = mustB wClose (exB E 1 (o + 1) (opensB wOpen o (PR.ok x (toks.drop a)))) by rw [prB, primP, if_neg HNK.out.1, if_neg HNK.out.2, if_neg (by rw [HD]; exact ny0), if_neg (by rw [HD]; exact ny1), if_pos (by rw [HD]; exact ny2)]; simp only [mustB, exB, opensB, PR.bind_assoc, PR.bind_ok])
    have HL := Lib.hid (LL.opens (q := PR.ok x (toks.drop a)) (n := n0) (fun y r he => by obtain ⟨_, rfl⟩ := PR.ok_inj he; exact HN0.out) (s := wOpen) (by decide) o)
    clear HD ny2
    go_wp2_with fail
    refine (rtake_any HP0.out wTrue ⟨#[116, 114, 117, 101]⟩ rfl (by decide)).mono ?_
    rintro e u1 ⟨he, hp, hm⟩
    rw [HNO0.out] at he
    subst he
    rw [take_no HNO0.out] at hp
    have HN1 := Lib.hid (HN0'.out.mv hm (fun e => hne4 e.symm))
    have HT1 := Lib.hid (HT0.out.mv hm (fun e => hne5 e.symm))
    have HM1 := Lib.hid (HM0.out.trans hm)
    have hw1 : g4 + 1 ≤ u1.heap.size := Nat.le_trans hw0 hm.size
    have HP1 := Lib.hid hp
    clear l5 d0 d1 d2 d3 l4 x1 x2 x3 x4 x5 x6 x7 x8
    obtain ⟨l5, d0, d1, d2, d3, _, _, _, _⟩ := HT1.out.cs
    obtain ⟨l4, x1, x2, x3, x4, x5, x6, x7, x8⟩ := HN1.out.nb
    clear hp hm
    go_wp2_with fail
    refine (rtake_any HP1.out wFalse ⟨#[102, 97, 108, 115, 101]⟩ rfl (by decide)).mono ?_
    rintro e u2 ⟨he, hp, hm⟩
    rw [HNO1.out] at he
    subst he
    rw [take_no HNO1.out] at hp
    have HN2 := Lib.hid (HN1.out.mv hm (fun e => hne4 e.symm))
    have HT2 := Lib.hid (HT1.out.mv hm (fun e => hne5 e.symm))
    have HM2 := Lib.hid (HM1.out.trans hm)
    have hw2 : g4 + 1 ≤ u2.heap.size := Nat.le_trans hw1 hm.size
    have HP2 := Lib.hid hp
    clear l5 d0 d1 d2 d3 l4 x1 x2 x3 x4 x5 x6 x7 x8
    obtain ⟨l5, d0, d1, d2, d3, _, _, _, _⟩ := HT2.out.cs
    obtain ⟨l4, x1, x2, x3, x4, x5, x6, x7, x8⟩ := HN2.out.nb
    clear hp hm
    go_wp2_with fail
    refine (is_any HP2.out wOpen ⟨#[40]⟩ rfl).mono ?_
    rintro e u3 ⟨he, hx⟩
    rw [HYES.out] at he
    subst he
    have HN3 := Lib.hid (HN2.out.mv (Mv.of_ext (b := b) hx) (fun e => hne4 e.symm))
    have HT3 := Lib.hid (HT2.out.mv (Mv.of_ext (b := b) hx) (fun e => hne5 e.symm))
    have HM3 := Lib.hid (HM2.out.trans (Mv.of_ext (b := b) hx))
    have hw3 : g4 + 1 ≤ u3.heap.size := Nat.le_trans hw2 (Mv.size (Mv.of_ext (b := b) hx))
    have HP3 := Lib.hid (HP2.out.ext hx)
    clear l5 d0 d1 d2 d3 l4 x1 x2 x3 x4 x5 x6 x7 x8
    obtain ⟨l5, d0, d1, d2, d3, _, _, _, _⟩ := HT3.out.cs
    obtain ⟨l4, x1, x2, x3, x4, x5, x6, x7, x8⟩ := HN3.out.nb
    clear hx
    go_wp2_with fail
    refine (ropens_any HP3.out HO.out wOpen ⟨#[40]⟩ rfl (by decide)).mono ?_
    rintro e u4 ⟨rfl, hp, hm⟩
    have HN4 := Lib.hid (HN3.out.mv hm (fun e => hne4 e.symm))
    have HT4 := Lib.hid (HT3.out.mv hm (fun e => hne5 e.symm))
    have HM4 := Lib.hid (HM3.out.trans hm)
    have hw4 : g4 + 1 ≤ u4.heap.size := Nat.le_trans hw3 hm.size
    have HP4 := Lib.hid hp
    clear l5 d0 d1 d2 d3 l4 x1 x2 x3 x4 x5 x6 x7 x8
    obtain ⟨l5, d0, d1, d2, d3, _, _, _, _⟩ := HT4.out.cs
    obtain ⟨l4, x1, x2, x3, x4, x5, x6, x7, x8⟩ := HN4.out.nb
    clear hp hm
    go_wp2_with fail
    refine (show Calls Tryz.prog 41 #[.pointer (some ⟨b, 0, none⟩), .int .i64 1] u4 (NdPost u4 b (some ⟨g, off, none⟩) N c toks (o + 1) (exB E 1 (o + 1) (opensB wOpen o (PR.ok x (toks.drop a))))) from hE.2 α u4 b _ N c toks (o + 1) 1 n0 _ HP4.out (Nat.le_refl _) (by decide) HL.out hM).mono ?_
    rintro e u5 ⟨d, tn, rfl, hr, hp, hm, hv⟩
    have HV := Lib.hid hv
    have HRN := Lib.hid (hr.mono (Q := fun j => W.heap.size + 1 ≤ j) (fun j h1 _ => by have := hw4; have := HG4.out; omega))
    have HN5 := Lib.hid (HN4.out.mv hm (fun e => hne4 e.symm))
    have HT5 := Lib.hid (HT4.out.mv hm (fun e => hne5 e.symm))
    have HM5 := Lib.hid (HM4.out.trans hm)
    have hw5 : g4 + 1 ≤ u5.heap.size := Nat.le_trans hw4 hm.size
    have HP5 := Lib.hid hp
    clear l5 d0 d1 d2 d3 l4 x1 x2 x3 x4 x5 x6 x7 x8
    obtain ⟨l5, d0, d1, d2, d3, _, _, _, _⟩ := HT5.out.cs
    obtain ⟨l4, x1, x2, x3, x4, x5, x6, x7, x8⟩ := HN5.out.nb
    clear hp hm hr hv
    go_upto_region 13 with (fail)
    have hxa : Ext u5 (u5.alloc (.cells #[.int .i64 d.k, .int .i64 d.n, .string d.s, .slice d.A d.m d.c] 31)) := (Ext.refl _).alloc _
    have hna := NX.new u5 d.k d.n d.s (.slice d.A d.m d.c)
    have hgb : u5.heap.size ≠ b := by have := HP5.out.lt; omega
    generalize u5.alloc (.cells #[.int .i64 d.k, .int .i64 d.n, .string d.s, .slice d.A d.m d.c] 31) = ua at *
    generalize u5.heap.size = gn at hna hgb ⊢
    have HRA := Lib.hid (HRN.out.ext hxa)
    have HN6 := Lib.hid (HN5.out.mv (Mv.of_ext (b := b) hxa) (fun e => hne4 e.symm))
    have HT6 := Lib.hid (HT5.out.mv (Mv.of_ext (b := b) hxa) (fun e => hne5 e.symm))
    have HM6 := Lib.hid (HM5.out.trans (Mv.of_ext (b := b) hxa))
    have hw6 : g4 + 1 ≤ ua.heap.size := Nat.le_trans hw5 (Mv.size (Mv.of_ext (b := b) hxa))
    have HP6 := Lib.hid (HP5.out.ext hxa)
    clear l5 d0 d1 d2 d3 l4 x1 x2 x3 x4 x5 x6 x7 x8
    obtain ⟨l5, d0, d1, d2, d3, _, _, _, _⟩ := HT6.out.cs
    obtain ⟨l4, x1, x2, x3, x4, x5, x6, x7, x8⟩ := HN6.out.nb
    have HNA := Lib.hid hna
    clear hxa hna
    go_wp2_with fail
    refine (rmust_any HP6.out wClose ⟨#[41]⟩ rfl (by decide)).mono ?_
    rintro e ub ⟨rfl, hp, hm⟩
    have HRB := Lib.hid (HRA.out.mv hm (fun k hk e => by have := HG4.out; omega))
    have HNB := Lib.hid (HNA.out.mv hm hgb)
    have HN7 := Lib.hid (HN6.out.mv hm (fun e => hne4 e.symm))
    have HT7 := Lib.hid (HT6.out.mv hm (fun e => hne5 e.symm))
    have HM7 := Lib.hid (HM6.out.trans hm)
    have hw7 : g4 + 1 ≤ ub.heap.size := Nat.le_trans hw6 hm.size
    have HP7 := Lib.hid hp
    clear l5 d0 d1 d2 d3 l4 x1 x2 x3 x4 x5 x6 x7 x8
    obtain ⟨l5, d0, d1, d2, d3, _, _, _, _⟩ := HT7.out.cs
    obtain ⟨l4, x1, x2, x3, x4, x5, x6, x7, x8⟩ := HN7.out.nb
    clear hp hm
    obtain ⟨bl, c2, f2⟩ := HP7.out.c2'
    go_upto_region 15 with (fail)
    have hm6 : Mv b ub (ub.setCell ⟨b, 2, none⟩ (.int .i64 o)) := Mv.set _
    have hp6 := HP7.out.close HO.out
    generalize ub.setCell ⟨b, 2, none⟩ (.int .i64 o) = uc at *
    have HRC := Lib.hid (HRB.out.mv hm6 (fun k hk e => by have := HG4.out; omega))
    have HNC := Lib.hid (HNB.out.mv hm6 hgb)
    have HN8 := Lib.hid (HN7.out.mv hm6 (fun e => hne4 e.symm))
    have HT8 := Lib.hid (HT7.out.mv hm6 (fun e => hne5 e.symm))
    have HM8 := Lib.hid (HM7.out.trans hm6)
    have hw8 : g4 + 1 ≤ uc.heap.size := Nat.le_trans hw7 hm6.size
    have HP8 := Lib.hid hp6
    clear l5 d0 d1 d2 d3 l4 x1 x2 x3 x4 x5 x6 x7 x8
    obtain ⟨l5, d0, d1, d2, d3, _, _, _, _⟩ := HT8.out.cs
    obtain ⟨l4, x1, x2, x3, x4, x5, x6, x7, x8⟩ := HN8.out.nb
    clear hp6 hm6 bl c2 f2
    obtain ⟨y0, y1, y2, y3, y4, _, _, _, _⟩ := HNC.out.nb
    go_wp2
    refine bodyPost_ret (v := .agg #[.int .i64 d.k, .int .i64 d.n, .string d.s, .slice d.A d.m d.c]) (by simp [results, Tryz.results90, go_sem, *]) rfl ?_
    rw [HG4.out, HPR.out]
    exact NdPost.fin HH.out d tn HRC.out HP8.out HM8.out (fun x2 t2 r2 he => by obtain ⟨r3, h3⟩ := mustB_inv he; exact HV.out x2 t2 r3 h3)
  have HNO2 := Lib.hid (show isP wOpen (PR.ok x (toks.drop a)) = false from decide_eq_false (by rw [HD]; exact ny2))
  by_cases ny3 : t.tx = wIf
  · have HYES := Lib.hid (show isP wIf (PR.ok x (toks.drop a)) = true from decide_eq_true (by rw [HD]; exact ny3))
    have HPR := Lib.hid (show prB E o x (toks.drop a) = chB E o (PR.ok x (toks.drop a)) by rw [prB, primP, if_neg HNK.out.1, if_neg HNK.out.2, if_neg (by rw [HD]; exact ny0), if_neg (by rw [HD]; exact ny1), if_neg (by rw [HD]; exact ny2), if_pos (by rw [HD]; exact ny3), chB_eq, PR.bind_ok])
    clear HD ny3
    go_wp2_with fail
    refine (rtake_any HP0.out wTrue ⟨#[116, 114, 117, 101]⟩ rfl (by decide)).mono ?_
    rintro e u1 ⟨he, hp, hm⟩
    rw [HNO0.out] at he
    subst he
    rw [take_no HNO0.out] at hp
    have HN1 := Lib.hid (HN0'.out.mv hm (fun e => hne4 e.symm))
    have HT1 := Lib.hid (HT0.out.mv hm (fun e => hne5 e.symm))
    have HM1 := Lib.hid (HM0.out.trans hm)
    have hw1 : g4 + 1 ≤ u1.heap.size := Nat.le_trans hw0 hm.size
    have HP1 := Lib.hid hp
    clear l5 d0 d1 d2 d3 l4 x1 x2 x3 x4 x5 x6 x7 x8
    obtain ⟨l5, d0, d1, d2, d3, _, _, _, _⟩ := HT1.out.cs
    obtain ⟨l4, x1, x2, x3, x4, x5, x6, x7, x8⟩ := HN1.out.nb
    clear hp hm
    go_wp2_with fail
    refine (rtake_any HP1.out wFalse ⟨#[102, 97, 108, 115, 101]⟩ rfl (by decide)).mono ?_
    rintro e u2 ⟨he, hp, hm⟩
    rw [HNO1.out] at he
    subst he
    rw [take_no HNO1.out] at hp
    have HN2 := Lib.hid (HN1.out.mv hm (fun e => hne4 e.symm))
    have HT2 := Lib.hid (HT1.out.mv hm (fun e => hne5 e.symm))
    have HM2 := Lib.hid (HM1.out.trans hm)
    have hw2 : g4 + 1 ≤ u2.heap.size := Nat.le_trans hw1 hm.size
    have HP2 := Lib.hid hp
    clear l5 d0 d1 d2 d3 l4 x1 x2 x3 x4 x5 x6 x7 x8
    obtain ⟨l5, d0, d1, d2, d3, _, _, _, _⟩ := HT2.out.cs
    obtain ⟨l4, x1, x2, x3, x4, x5, x6, x7, x8⟩ := HN2.out.nb
    clear hp hm
    go_wp2_with fail
    refine (is_any HP2.out wOpen ⟨#[40]⟩ rfl).mono ?_
    rintro e u3 ⟨he, hx⟩
    rw [HNO2.out] at he
    subst he
    have HN3 := Lib.hid (HN2.out.mv (Mv.of_ext (b := b) hx) (fun e => hne4 e.symm))
    have HT3 := Lib.hid (HT2.out.mv (Mv.of_ext (b := b) hx) (fun e => hne5 e.symm))
    have HM3 := Lib.hid (HM2.out.trans (Mv.of_ext (b := b) hx))
    have hw3 : g4 + 1 ≤ u3.heap.size := Nat.le_trans hw2 (Mv.size (Mv.of_ext (b := b) hx))
    have HP3 := Lib.hid (HP2.out.ext hx)
    clear l5 d0 d1 d2 d3 l4 x1 x2 x3 x4 x5 x6 x7 x8
    obtain ⟨l5, d0, d1, d2, d3, _, _, _, _⟩ := HT3.out.cs
    obtain ⟨l4, x1, x2, x3, x4, x5, x6, x7, x8⟩ := HN3.out.nb
    clear hx
    go_wp2_with fail
    refine (is_any HP3.out wIf ⟨#[105, 102]⟩ rfl).mono ?_
    rintro e u4 ⟨he, hx⟩
    rw [HYES.out] at he
    subst he
    have HN4 := Lib.hid (HN3.out.mv (Mv.of_ext (b := b) hx) (fun e => hne4 e.symm))
    have HT4 := Lib.hid (HT3.out.mv (Mv.of_ext (b := b) hx) (fun e => hne5 e.symm))
    have HM4 := Lib.hid (HM3.out.trans (Mv.of_ext (b := b) hx))
    have hw4 : g4 + 1 ≤ u4.heap.size := Nat.le_trans hw3 (Mv.size (Mv.of_ext (b := b) hx))
    have HP4 := Lib.hid (HP3.out.ext hx)
    clear l5 d0 d1 d2 d3 l4 x1 x2 x3 x4 x5 x6 x7 x8
    obtain ⟨l5, d0, d1, d2, d3, _, _, _, _⟩ := HT4.out.cs
    obtain ⟨l4, x1, x2, x3, x4, x5, x6, x7, x8⟩ := HN4.out.nb
    clear hx
    go_wp2_with fail
    refine (rchoice_any hE HP4.out HO.out n0 (fun y r he => by obtain ⟨_, rfl⟩ := PR.ok_inj he; exact HN0.out) hM).mono ?_
    rintro e u5 ⟨d, tn, rfl, hr, hp, hm, hv⟩
    have HV := Lib.hid hv
    have HRN := Lib.hid (hr.mono (Q := fun j => W.heap.size + 1 ≤ j) (fun j h1 _ => by have := hw4; have := HG4.out; omega))
    have HN5 := Lib.hid (HN4.out.mv hm (fun e => hne4 e.symm))
    have HT5 := Lib.hid (HT4.out.mv hm (fun e => hne5 e.symm))
    have HM5 := Lib.hid (HM4.out.trans hm)
    have hw5 : g4 + 1 ≤ u5.heap.size := Nat.le_trans hw4 hm.size
    have HP5 := Lib.hid hp
    clear l5 d0 d1 d2 d3 l4 x1 x2 x3 x4 x5 x6 x7 x8
    obtain ⟨l5, d0, d1, d2, d3, _, _, _, _⟩ := HT5.out.cs
    obtain ⟨l4, x1, x2, x3, x4, x5, x6, x7, x8⟩ := HN5.out.nb
    clear hp hm hr hv
    go_wp2
    refine bodyPost_ret (v := .agg #[.int .i64 d.k, .int .i64 d.n, .string d.s, .slice d.A d.m d.c]) (by simp [results, Tryz.results90, go_sem, *]) rfl ?_
    rw [HG4.out, HPR.out]
    exact NdPost.fin HH.out d tn HRN.out HP5.out HM5.out HV.out
  have HNO3 := Lib.hid (show isP wIf (PR.ok x (toks.drop a)) = false from decide_eq_false (by rw [HD]; exact ny3))
  by_cases hf : t.tx ∈ functions
  · have HPR := Lib.hid (show prB E o x (toks.drop a) = callB E o x (toks.drop a) by rw [prB, primP, if_neg HNK.out.1, if_neg HNK.out.2, if_neg (by rw [HD]; exact ny0), if_neg (by rw [HD]; exact ny1), if_neg (by rw [HD]; exact ny2), if_neg (by rw [HD]; exact ny3), if_pos (by rw [HD]; exact hf)]; rfl)
    have HFN := Lib.hid hf
    obtain ⟨m, hm9⟩ : ∃ m, m = argN t.tx := ⟨_, rfl⟩
    have HAN := Lib.hid hm9.symm
    have hmI : (0 : Int) < (m : Int) := by have := (argN_fun (s := t.tx)).1.2 hf; omega
    clear HD hf hm9
    go_wp2_with fail
    refine (rtake_any HP0.out wTrue ⟨#[116, 114, 117, 101]⟩ rfl (by decide)).mono ?_
    rintro e u1 ⟨he, hp, hm⟩
    rw [HNO0.out] at he
    subst he
    rw [take_no HNO0.out] at hp
    have HN1 := Lib.hid (HN0'.out.mv hm (fun e => hne4 e.symm))
    have HT1 := Lib.hid (HT0.out.mv hm (fun e => hne5 e.symm))
    have HM1 := Lib.hid (HM0.out.trans hm)
    have hw1 : g4 + 1 ≤ u1.heap.size := Nat.le_trans hw0 hm.size
    have HP1 := Lib.hid hp
    clear l5 d0 d1 d2 d3 l4 x1 x2 x3 x4 x5 x6 x7 x8
    obtain ⟨l5, d0, d1, d2, d3, _, _, _, _⟩ := HT1.out.cs
    obtain ⟨l4, x1, x2, x3, x4, x5, x6, x7, x8⟩ := HN1.out.nb
    clear hp hm
    go_wp2_with fail
    refine (rtake_any HP1.out wFalse ⟨#[102, 97, 108, 115, 101]⟩ rfl (by decide)).mono ?_
    rintro e u2 ⟨he, hp, hm⟩
    rw [HNO1.out] at he
    subst he
    rw [take_no HNO1.out] at hp
    have HN2 := Lib.hid (HN1.out.mv hm (fun e => hne4 e.symm))
    have HT2 := Lib.hid (HT1.out.mv hm (fun e => hne5 e.symm))
    have HM2 := Lib.hid (HM1.out.trans hm)
    have hw2 : g4 + 1 ≤ u2.heap.size := Nat.le_trans hw1 hm.size
    have HP2 := Lib.hid hp
    clear l5 d0 d1 d2 d3 l4 x1 x2 x3 x4 x5 x6 x7 x8
    obtain ⟨l5, d0, d1, d2, d3, _, _, _, _⟩ := HT2.out.cs
    obtain ⟨l4, x1, x2, x3, x4, x5, x6, x7, x8⟩ := HN2.out.nb
    clear hp hm
    go_wp2_with fail
    refine (is_any HP2.out wOpen ⟨#[40]⟩ rfl).mono ?_
    rintro e u3 ⟨he, hx⟩
    rw [HNO2.out] at he
    subst he
    have HN3 := Lib.hid (HN2.out.mv (Mv.of_ext (b := b) hx) (fun e => hne4 e.symm))
    have HT3 := Lib.hid (HT2.out.mv (Mv.of_ext (b := b) hx) (fun e => hne5 e.symm))
    have HM3 := Lib.hid (HM2.out.trans (Mv.of_ext (b := b) hx))
    have hw3 : g4 + 1 ≤ u3.heap.size := Nat.le_trans hw2 (Mv.size (Mv.of_ext (b := b) hx))
    have HP3 := Lib.hid (HP2.out.ext hx)
    clear l5 d0 d1 d2 d3 l4 x1 x2 x3 x4 x5 x6 x7 x8
    obtain ⟨l5, d0, d1, d2, d3, _, _, _, _⟩ := HT3.out.cs
    obtain ⟨l4, x1, x2, x3, x4, x5, x6, x7, x8⟩ := HN3.out.nb
    clear hx
    go_wp2_with fail
    refine (is_any HP3.out wIf ⟨#[105, 102]⟩ rfl).mono ?_
    rintro e u4 ⟨he, hx⟩
    rw [HNO3.out] at he
    subst he
    have HN4 := Lib.hid (HN3.out.mv (Mv.of_ext (b := b) hx) (fun e => hne4 e.symm))
    have HT4 := Lib.hid (HT3.out.mv (Mv.of_ext (b := b) hx) (fun e => hne5 e.symm))
    have HM4 := Lib.hid (HM3.out.trans (Mv.of_ext (b := b) hx))
    have hw4 : g4 + 1 ≤ u4.heap.size := Nat.le_trans hw3 (Mv.size (Mv.of_ext (b := b) hx))
    have HP4 := Lib.hid (HP3.out.ext hx)
    clear l5 d0 d1 d2 d3 l4 x1 x2 x3 x4 x5 x6 x7 x8
    obtain ⟨l5, d0, d1, d2, d3, _, _, _, _⟩ := HT4.out.cs
    obtain ⟨l4, x1, x2, x3, x4, x5, x6, x7, x8⟩ := HN4.out.nb
    clear hx
    go_wp2_with fail
    refine (rargs_any t.tx S HSS.out _).mono ?_
    rintro e u5 ⟨he, hx⟩
    rw [HAN.out] at he
    subst he
    have HN5 := Lib.hid (HN4.out.mv (Mv.of_ext (b := b) hx) (fun e => hne4 e.symm))
    have HT5 := Lib.hid (HT4.out.mv (Mv.of_ext (b := b) hx) (fun e => hne5 e.symm))
    have HM5 := Lib.hid (HM4.out.trans (Mv.of_ext (b := b) hx))
    have hw5 : g4 + 1 ≤ u5.heap.size := Nat.le_trans hw4 (Mv.size (Mv.of_ext (b := b) hx))
    have HP5 := Lib.hid (HP4.out.ext hx)
    clear l5 d0 d1 d2 d3 l4 x1 x2 x3 x4 x5 x6 x7 x8
    obtain ⟨l5, d0, d1, d2, d3, _, _, _, _⟩ := HT5.out.cs
    obtain ⟨l4, x1, x2, x3, x4, x5, x6, x7, x8⟩ := HN5.out.nb
    clear hx
    go_wp2_with fail
    refine (rcallf_any hE HP5.out HO.out (by rw [HT.out]; exact HFN.out) S (by rw [HT.out]; exact HSS.out) n0 HN0.out hM).mono ?_
    rintro e u6 ⟨d, tn, rfl, hr, hp, hm, hv⟩
    have HV := Lib.hid hv
    have HRN := Lib.hid (hr.mono (Q := fun j => W.heap.size + 1 ≤ j) (fun j h1 _ => by have := hw5; have := HG4.out; omega))
    have HN6 := Lib.hid (HN5.out.mv hm (fun e => hne4 e.symm))
    have HT6 := Lib.hid (HT5.out.mv hm (fun e => hne5 e.symm))
    have HM6 := Lib.hid (HM5.out.trans hm)
    have hw6 : g4 + 1 ≤ u6.heap.size := Nat.le_trans hw5 hm.size
    have HP6 := Lib.hid hp
    clear l5 d0 d1 d2 d3 l4 x1 x2 x3 x4 x5 x6 x7 x8
    obtain ⟨l5, d0, d1, d2, d3, _, _, _, _⟩ := HT6.out.cs
    obtain ⟨l4, x1, x2, x3, x4, x5, x6, x7, x8⟩ := HN6.out.nb
    clear hp hm hr hv
    go_wp2
    refine bodyPost_ret (v := .agg #[.int .i64 d.k, .int .i64 d.n, .string d.s, .slice d.A d.m d.c]) (by simp [results, Tryz.results90, go_sem, *]) rfl ?_
    rw [HG4.out, HPR.out]
    exact NdPost.fin HH.out d tn HRN.out HP6.out HM6.out HV.out
  have HAN := Lib.hid (show argN t.tx = 0 from by have := mt (argN_fun (s := t.tx)).1.1 hf; omega)
  by_cases hg9 : t.tx ∈ fields
  · have HPR := Lib.hid (show prB E o x (toks.drop a) = .ok (x, .nd 4 0 t.tx []) (toks.drop (a + 1)) by rw [prB, primP, if_neg HNK.out.1, if_neg HNK.out.2, if_neg (by rw [HD]; exact ny0), if_neg (by rw [HD]; exact ny1), if_neg (by rw [HD]; exact ny2), if_neg (by rw [HD]; exact ny3), if_neg (by rw [HD]; exact hf), if_pos (by rw [HD]; exact hg9), PR.bind_ok, HS.out.hd_mem.2.2, HD])
    have HFN := Lib.hid (show decide (t.tx ∈ fields) = true from decide_eq_true hg9)
    have HTK := Lib.hid (show tokB 1 (PR.ok x (toks.drop a)) = .ok (x, t) (toks.drop (a + 1)) by rw [tokB, PR.bind_ok, tokP, HT.out, if_pos (HS.out.wf.kd1 HTM.out (List.mem_append_right _ hg9)), PR.bind_ok, HS.out.hd_mem.2.2])
    clear HD hf hg9
    go_wp2_with fail
    refine (rtake_any HP0.out wTrue ⟨#[116, 114, 117, 101]⟩ rfl (by decide)).mono ?_
    rintro e u1 ⟨he, hp, hm⟩
    rw [HNO0.out] at he
    subst he
    rw [take_no HNO0.out] at hp
    have HN1 := Lib.hid (HN0'.out.mv hm (fun e => hne4 e.symm))
    have HT1 := Lib.hid (HT0.out.mv hm (fun e => hne5 e.symm))
    have HM1 := Lib.hid (HM0.out.trans hm)
    have hw1 : g4 + 1 ≤ u1.heap.size := Nat.le_trans hw0 hm.size
    have HP1 := Lib.hid hp
    clear l5 d0 d1 d2 d3 l4 x1 x2 x3 x4 x5 x6 x7 x8
    obtain ⟨l5, d0, d1, d2, d3, _, _, _, _⟩ := HT1.out.cs
    obtain ⟨l4, x1, x2, x3, x4, x5, x6, x7, x8⟩ := HN1.out.nb
    clear hp hm
    go_wp2_with fail
    refine (rtake_any HP1.out wFalse ⟨#[102, 97, 108, 115, 101]⟩ rfl (by decide)).mono ?_
    rintro e u2 ⟨he, hp, hm⟩
    rw [HNO1.out] at he
    subst he
    rw [take_no HNO1.out] at hp
    have HN2 := Lib.hid (HN1.out.mv hm (fun e => hne4 e.symm))
    have HT2 := Lib.hid (HT1.out.mv hm (fun e => hne5 e.symm))
    have HM2 := Lib.hid (HM1.out.trans hm)
    have hw2 : g4 + 1 ≤ u2.heap.size := Nat.le_trans hw1 hm.size
    have HP2 := Lib.hid hp
    clear l5 d0 d1 d2 d3 l4 x1 x2 x3 x4 x5 x6 x7 x8
    obtain ⟨l5, d0, d1, d2, d3, _, _, _, _⟩ := HT2.out.cs
    obtain ⟨l4, x1, x2, x3, x4, x5, x6, x7, x8⟩ := HN2.out.nb
    clear hp hm
    go_wp2_with fail
    refine (is_any HP2.out wOpen ⟨#[40]⟩ rfl).mono ?_
    rintro e u3 ⟨he, hx⟩
    rw [HNO2.out] at he
    subst he
    have HN3 := Lib.hid (HN2.out.mv (Mv.of_ext (b := b) hx) (fun e => hne4 e.symm))
    have HT3 := Lib.hid (HT2.out.mv (Mv.of_ext (b := b) hx) (fun e => hne5 e.symm))
    have HM3 := Lib.hid (HM2.out.trans (Mv.of_ext (b := b) hx))
    have hw3 : g4 + 1 ≤ u3.heap.size := Nat.le_trans hw2 (Mv.size (Mv.of_ext (b := b) hx))
    have HP3 := Lib.hid (HP2.out.ext hx)
    clear l5 d0 d1 d2 d3 l4 x1 x2 x3 x4 x5 x6 x7 x8
    obtain ⟨l5, d0, d1, d2, d3, _, _, _, _⟩ := HT3.out.cs
    obtain ⟨l4, x1, x2, x3, x4, x5, x6, x7, x8⟩ := HN3.out.nb
    clear hx
    go_wp2_with fail
    refine (is_any HP3.out wIf ⟨#[105, 102]⟩ rfl).mono ?_
    rintro e u4 ⟨he, hx⟩
    rw [HNO3.out] at he
    subst he
    have HN4 := Lib.hid (HN3.out.mv (Mv.of_ext (b := b) hx) (fun e => hne4 e.symm))
    have HT4 := Lib.hid (HT3.out.mv (Mv.of_ext (b := b) hx) (fun e => hne5 e.symm))
    have HM4 := Lib.hid (HM3.out.trans (Mv.of_ext (b := b) hx))
    have hw4 : g4 + 1 ≤ u4.heap.size := Nat.le_trans hw3 (Mv.size (Mv.of_ext (b := b) hx))
    have HP4 := Lib.hid (HP3.out.ext hx)
    clear l5 d0 d1 d2 d3 l4 x1 x2 x3 x4 x5 x6 x7 x8
    obtain ⟨l5, d0, d1, d2, d3, _, _, _, _⟩ := HT4.out.cs
    obtain ⟨l4, x1, x2, x3, x4, x5, x6, x7, x8⟩ := HN4.out.nb
    clear hx
    go_wp2_with fail
    refine (rargs_any t.tx S HSS.out _).mono ?_
    rintro e u5 ⟨he, hx⟩
    rw [HAN.out] at he
    subst he
    have HN5 := Lib.hid (HN4.out.mv (Mv.of_ext (b := b) hx) (fun e => hne4 e.symm))
    have HT5 := Lib.hid (HT4.out.mv (Mv.of_ext (b := b) hx) (fun e => hne5 e.symm))
    have HM5 := Lib.hid (HM4.out.trans (Mv.of_ext (b := b) hx))
    have hw5 : g4 + 1 ≤ u5.heap.size := Nat.le_trans hw4 (Mv.size (Mv.of_ext (b := b) hx))
    have HP5 := Lib.hid (HP4.out.ext hx)
    clear l5 d0 d1 d2 d3 l4 x1 x2 x3 x4 x5 x6 x7 x8
    obtain ⟨l5, d0, d1, d2, d3, _, _, _, _⟩ := HT5.out.cs
    obtain ⟨l4, x1, x2, x3, x4, x5, x6, x7, x8⟩ := HN5.out.nb
    clear hx
    go_wp2_with fail
    refine (rfield_any t.tx S HSS.out _).mono ?_
    rintro e u6 ⟨he, hx⟩
    rw [HFN.out] at he
    subst he
    have HN6 := Lib.hid (HN5.out.mv (Mv.of_ext (b := b) hx) (fun e => hne4 e.symm))
    have HT6 := Lib.hid (HT5.out.mv (Mv.of_ext (b := b) hx) (fun e => hne5 e.symm))
    have HM6 := Lib.hid (HM5.out.trans (Mv.of_ext (b := b) hx))
    have hw6 : g4 + 1 ≤ u6.heap.size := Nat.le_trans hw5 (Mv.size (Mv.of_ext (b := b) hx))
    have HP6 := Lib.hid (HP5.out.ext hx)
    clear l5 d0 d1 d2 d3 l4 x1 x2 x3 x4 x5 x6 x7 x8
    obtain ⟨l5, d0, d1, d2, d3, _, _, _, _⟩ := HT6.out.cs
    obtain ⟨l4, x1, x2, x3, x4, x5, x6, x7, x8⟩ := HN6.out.nb
    clear hx
    go_wp2_with fail
    refine (rtoken_any HP6.out 1 (by decide)).mono ?_
    rintro e u7 ⟨t6, rfl, hp, hm, hv⟩
    obtain rfl : t6 = t := hv x t _ HTK.out
    rw [HTK.out] at hp
    have HN7 := Lib.hid (HN6.out.mv hm (fun e => hne4 e.symm))
    have HT7 := Lib.hid (HT6.out.mv hm (fun e => hne5 e.symm))
    have HM7 := Lib.hid (HM6.out.trans hm)
    have hw7 : g4 + 1 ≤ u7.heap.size := Nat.le_trans hw6 hm.size
    have HP7 := Lib.hid hp
    clear l5 d0 d1 d2 d3 l4 x1 x2 x3 x4 x5 x6 x7 x8
    obtain ⟨l5, d0, d1, d2, d3, _, _, _, _⟩ := HT7.out.cs
    obtain ⟨l4, x1, x2, x3, x4, x5, x6, x7, x8⟩ := HN7.out.nb
    clear hp hm hv
    go_wp2
    refine bodyPost_ret (v := .agg #[.int .i64 4, .int .i64 0, .string (bs t6.tx), .slice none 0 0]) (by simp [results, Tryz.results90, go_sem, *]) rfl ?_
    rw [HG4.out, HPR.out]
    exact NdPost.fin HH.out ⟨4, 0, bs t6.tx, none, 0, 0⟩ (.nd 4 0 t6.tx []) (Rep.leaf _ _ 4 0 t6.tx) HP7.out HM7.out (fun x2 t2 r2 he => by injection he with he _; injection he)
  have HPR := Lib.hid (show prB E o x (toks.drop a) = .bad (toks.drop a) 20 by rw [prB, primP, if_neg HNK.out.1, if_neg HNK.out.2, if_neg (by rw [HD]; exact ny0), if_neg (by rw [HD]; exact ny1), if_neg (by rw [HD]; exact ny2), if_neg (by rw [HD]; exact ny3), if_neg (by rw [HD]; exact hf), if_neg (by rw [HD]; exact hg9)]; rfl)
  have HFN := Lib.hid (show decide (t.tx ∈ fields) = false from decide_eq_false hg9)
  clear HD hf hg9
  go_wp2_with fail
  refine (rtake_any HP0.out wTrue ⟨#[116, 114, 117, 101]⟩ rfl (by decide)).mono ?_
  rintro e u1 ⟨he, hp, hm⟩
  rw [HNO0.out] at he
  subst he
  rw [take_no HNO0.out] at hp
  have HN1 := Lib.hid (HN0'.out.mv hm (fun e => hne4 e.symm))
  have HT1 := Lib.hid (HT0.out.mv hm (fun e => hne5 e.symm))
  have HM1 := Lib.hid (HM0.out.trans hm)
  have hw1 : g4 + 1 ≤ u1.heap.size := Nat.le_trans hw0 hm.size
  have HP1 := Lib.hid hp
  clear l5 d0 d1 d2 d3 l4 x1 x2 x3 x4 x5 x6 x7 x8
  obtain ⟨l5, d0, d1, d2, d3, _, _, _, _⟩ := HT1.out.cs
  obtain ⟨l4, x1, x2, x3, x4, x5, x6, x7, x8⟩ := HN1.out.nb
  clear hp hm
  go_wp2_with fail
  refine (rtake_any HP1.out wFalse ⟨#[102, 97, 108, 115, 101]⟩ rfl (by decide)).mono ?_
  rintro e u2 ⟨he, hp, hm⟩
  rw [HNO1.out] at he
  subst he
  rw [take_no HNO1.out] at hp
  have HN2 := Lib.hid (HN1.out.mv hm (fun e => hne4 e.symm))
  have HT2 := Lib.hid (HT1.out.mv hm (fun e => hne5 e.symm))
  have HM2 := Lib.hid (HM1.out.trans hm)
  have hw2 : g4 + 1 ≤ u2.heap.size := Nat.le_trans hw1 hm.size
  have HP2 := Lib.hid hp
  clear l5 d0 d1 d2 d3 l4 x1 x2 x3 x4 x5 x6 x7 x8
  obtain ⟨l5, d0, d1, d2, d3, _, _, _, _⟩ := HT2.out.cs
  obtain ⟨l4, x1, x2, x3, x4, x5, x6, x7, x8⟩ := HN2.out.nb
  clear hp hm
  go_wp2_with fail
  refine (is_any HP2.out wOpen ⟨#[40]⟩ rfl).mono ?_
  rintro e u3 ⟨he, hx⟩
  rw [HNO2.out] at he
  subst he
  have HN3 := Lib.hid (HN2.out.mv (Mv.of_ext (b := b) hx) (fun e => hne4 e.symm))
  have HT3 := Lib.hid (HT2.out.mv (Mv.of_ext (b := b) hx) (fun e => hne5 e.symm))
  have HM3 := Lib.hid (HM2.out.trans (Mv.of_ext (b := b) hx))
  have hw3 : g4 + 1 ≤ u3.heap.size := Nat.le_trans hw2 (Mv.size (Mv.of_ext (b := b) hx))
  have HP3 := Lib.hid (HP2.out.ext hx)
  clear l5 d0 d1 d2 d3 l4 x1 x2 x3 x4 x5 x6 x7 x8
  obtain ⟨l5, d0, d1, d2, d3, _, _, _, _⟩ := HT3.out.cs
  obtain ⟨l4, x1, x2, x3, x4, x5, x6, x7, x8⟩ := HN3.out.nb
  clear hx
  go_wp2_with fail
  refine (is_any HP3.out wIf ⟨#[105, 102]⟩ rfl).mono ?_
  rintro e u4 ⟨he, hx⟩
  rw [HNO3.out] at he
  subst he
  have HN4 := Lib.hid (HN3.out.mv (Mv.of_ext (b := b) hx) (fun e => hne4 e.symm))
  have HT4 := Lib.hid (HT3.out.mv (Mv.of_ext (b := b) hx) (fun e => hne5 e.symm))
  have HM4 := Lib.hid (HM3.out.trans (Mv.of_ext (b := b) hx))
  have hw4 : g4 + 1 ≤ u4.heap.size := Nat.le_trans hw3 (Mv.size (Mv.of_ext (b := b) hx))
  have HP4 := Lib.hid (HP3.out.ext hx)
  clear l5 d0 d1 d2 d3 l4 x1 x2 x3 x4 x5 x6 x7 x8
  obtain ⟨l5, d0, d1, d2, d3, _, _, _, _⟩ := HT4.out.cs
  obtain ⟨l4, x1, x2, x3, x4, x5, x6, x7, x8⟩ := HN4.out.nb
  clear hx
  go_wp2_with fail
  refine (rargs_any t.tx S HSS.out _).mono ?_
  rintro e u5 ⟨he, hx⟩
  rw [HAN.out] at he
  subst he
  have HN5 := Lib.hid (HN4.out.mv (Mv.of_ext (b := b) hx) (fun e => hne4 e.symm))
  have HT5 := Lib.hid (HT4.out.mv (Mv.of_ext (b := b) hx) (fun e => hne5 e.symm))
  have HM5 := Lib.hid (HM4.out.trans (Mv.of_ext (b := b) hx))
  have hw5 : g4 + 1 ≤ u5.heap.size := Nat.le_trans hw4 (Mv.size (Mv.of_ext (b := b) hx))
  have HP5 := Lib.hid (HP4.out.ext hx)
  clear l5 d0 d1 d2 d3 l4 x1 x2 x3 x4 x5 x6 x7 x8
  obtain ⟨l5, d0, d1, d2, d3, _, _, _, _⟩ := HT5.out.cs
  obtain ⟨l4, x1, x2, x3, x4, x5, x6, x7, x8⟩ := HN5.out.nb
  clear hx
  go_wp2_with fail
  refine (rfield_any t.tx S HSS.out _).mono ?_
  rintro e u6 ⟨he, hx⟩
  rw [HFN.out] at he
  subst he
  have HN6 := Lib.hid (HN5.out.mv (Mv.of_ext (b := b) hx) (fun e => hne4 e.symm))
  have HT6 := Lib.hid (HT5.out.mv (Mv.of_ext (b := b) hx) (fun e => hne5 e.symm))
  have HM6 := Lib.hid (HM5.out.trans (Mv.of_ext (b := b) hx))
  have hw6 : g4 + 1 ≤ u6.heap.size := Nat.le_trans hw5 (Mv.size (Mv.of_ext (b := b) hx))
  have HP6 := Lib.hid (HP5.out.ext hx)
  clear l5 d0 d1 d2 d3 l4 x1 x2 x3 x4 x5 x6 x7 x8
  obtain ⟨l5, d0, d1, d2, d3, _, _, _, _⟩ := HT6.out.cs
  obtain ⟨l4, x1, x2, x3, x4, x5, x6, x7, x8⟩ := HN6.out.nb
  clear hx
  go_wp2_with fail
  refine (rfail_any HP6.out 20 (by decide)).mono ?_
  rintro e u7 ⟨rfl, hp, hm⟩
  have HN7 := Lib.hid (HN6.out.mv hm (fun e => hne4 e.symm))
  have HT7 := Lib.hid (HT6.out.mv hm (fun e => hne5 e.symm))
  have HM7 := Lib.hid (HM6.out.trans hm)
  have hw7 : g4 + 1 ≤ u7.heap.size := Nat.le_trans hw6 hm.size
  have HP7 := Lib.hid hp
  clear l5 d0 d1 d2 d3 l4 x1 x2 x3 x4 x5 x6 x7 x8
  obtain ⟨l5, d0, d1, d2, d3, _, _, _, _⟩ := HT7.out.cs
  obtain ⟨l4, x1, x2, x3, x4, x5, x6, x7, x8⟩ := HN7.out.nb
  clear hp hm
  go_wp2
  refine bodyPost_ret (v := .agg #[.int .i64 0, .int .i64 0, .string ⟨#[]⟩, .slice none 0 0]) (by simp [results, Tryz.results90, go_sem, *]) rfl ?_
  rw [HG4.out, HPR.out]
  exact NdPost.fin HH.out ⟨0, 0, ⟨#[]⟩, none, 0, 0⟩ (.nd 0 0 [] []) (Rep.leaf _ _ 0 0 []) HP7.out HM7.out (fun x2 t2 r2 he => by cases he)
end
end Go.Proofs.YtnpenepdechkjaaGreatDoor
