/- The reference's unary, choice. -/
import Derived.Test.YtnpenepdechkjaaGreatDoorYf
import Derived.Test.YtnpenepdechkjaaGreatDoorMg
namespace Go.Proofs.YtnpenepdechkjaaGreatDoor
open Go Go.RowKit

section
variable {α : Type} {W W' X : World} {b : Nat} {A : Option Addr} {N c : Nat} {toks : List Tk} {o : Nat} {q : PR α}
def exB (E : Nat → Nat → List Tk → PR Tr) (lv o : Nat) (q : PR α) : PR (α × Tr) := q.bind fun x r => (E lv o r).bind fun t r => .ok (x, t) r
/-- A node that a method hands back. -/
def NdPost (W : World) (b : Nat) (A : Option Addr) (N c : Nat) (toks : List Tk) (o : Nat) (q2 : PR (α × Tr)) (e : Ending) (W' : World) : Prop :=
  ∃ (d : Nd) (t : Tr), e = .returned (.agg #[.int .i64 d.k, .int .i64 d.n, .string d.s, .slice d.A d.m d.c]) ∧ Rep W' (fun k => W.heap.size ≤ k) d t ∧ SP W' b A N c toks o q2 ∧ Mv b W W' ∧ ∀ x t' r, q2 = .ok (x, t') r → t = t'
/-- What is left to read is short. -/
def LL (n : Nat) (q : PR α) : Prop := ∀ x r, q = .ok x r → r.length ≤ n
/-- What is known of the reference's expr, called with less to read. -/
def RE (E : Nat → Nat → List Tk → PR Tr) (M : Nat) : Prop :=
  (∀ lv o r t r', 1 ≤ lv → E lv o r = .ok t r' → r'.length ≤ r.length) ∧
  ∀ (α : Type) (W : World) (b : Nat) (A : Option Addr) (N c : Nat) (toks : List Tk) (o lv n : Nat) (q : PR α), SP W b A N c toks o q → 1 ≤ lv → lv ≤ 7 → LL n q → 9 * n + (8 - lv) < M →
    Calls Tryz.prog 41 #[.pointer (some ⟨b, 0, none⟩), .int .i64 (lv : Nat)] W (NdPost W b A N c toks o (exB E lv o q))
theorem LL.mono {n m : Nat} (h : LL n q) (hm : n ≤ m) : LL m q := fun x r e => Nat.le_trans (h x r e) hm
theorem LL.must {n : Nat} (h : LL n q) (s : List UInt8) : LL n (mustB s q) := fun x r e => by
  obtain ⟨y, r1, h1, h2⟩ := PR.bind_inv e
  obtain ⟨u, r2, h3, h4⟩ := PR.bind_inv h2
  obtain ⟨_, rfl⟩ := PR.ok_inj h4
  have := h y r1 h1
  rw [must_ok h3, List.length_tail]; omega
theorem LL.opens {n : Nat} (h : LL (n + 1) q) {s : List UInt8} (hs : s ≠ []) (o : Nat) : LL n (opensB s o q) := fun x r e => by
  obtain ⟨y, r1, h1, h2⟩ := PR.bind_inv e
  obtain ⟨u, r2, h3, h4⟩ := PR.bind_inv h2
  obtain ⟨_, rfl⟩ := PR.ok_inj h4
  have := h y r1 h1
  have := opens_sz hs h3
  omega
theorem LL.ex {n M : Nat} {E : Nat → Nat → List Tk → PR Tr} (hE : RE E M) (h : LL n q) {lv : Nat} (hl : 1 ≤ lv) (o : Nat) : LL n (exB E lv o q) := fun x r e => by
  obtain ⟨y, r1, h1, h2⟩ := PR.bind_inv e
  obtain ⟨u, r2, h3, h4⟩ := PR.bind_inv h2
  obtain ⟨_, rfl⟩ := PR.ok_inj h4
  exact Nat.le_trans (hE.1 lv o r1 u r2 hl h3) (h y r1 h1)
theorem mustB_inv {s : List UInt8} {x : α} {r : List Tk} (h : mustB s q = .ok x r) : ∃ r', q = .ok x r' := by
  obtain ⟨y, r1, h1, h2⟩ := PR.bind_inv h
  obtain ⟨u, r2, h3, h4⟩ := PR.bind_inv h2
  obtain ⟨rfl, _⟩ := PR.ok_inj h4
  exact ⟨r1, h1⟩
theorem exB_inv {E : Nat → Nat → List Tk → PR Tr} {lv o : Nat} {x : α} {t : Tr} {r : List Tk} (h : exB E lv o q = .ok (x, t) r) : ∃ r', q = .ok x r' := by
  obtain ⟨y, r1, h1, h2⟩ := PR.bind_inv h
  obtain ⟨u, r2, h3, h4⟩ := PR.bind_inv h2
  obtain ⟨h5, _⟩ := PR.ok_inj h4
  injection h5 with h6 _
  exact ⟨r1, h6 ▸ h1⟩
def unB (E : Nat → Nat → List Tk → PR Tr) (lv o : Nat) (s : List UInt8) (q : PR α) : PR (α × Tr) := (exB E lv (o + 1) (opensB s o q)).bind fun y r => .ok (y.1, .nd 5 0 s [y.2]) r
theorem unB_eq (E : Nat → Nat → List Tk → PR Tr) (lv o : Nat) (s : List UInt8) (q : PR α) : unB E lv o s q = q.bind fun x r => ((opensP s o r).bind fun _ r2 => (E lv (o + 1) r2).bind fun n r3 => .ok (.nd 5 0 s [n]) r3).bind fun t r => .ok (x, t) r := by
  simp only [unB, exB, opensB, PR.bind_assoc, PR.bind_ok]
theorem SP.close (h : SP W b A N c toks (o + 1) q) (ho : o ≤ 12) : SP (W.setCell ⟨b, 2, none⟩ (.int .i64 o)) b A N c toks o q := h.openS o (fun _ => ho) (by omega)
theorem SP.c2' (h : SP W b A N c toks (o + 1) q) : b < W.heap.size ∧ W.cell? ⟨b, 2, none⟩ = some (.int .i64 ((o : Int) + 1)) ∧ W.frozen? ⟨b, 2, none⟩ = false := by
  have := h.c2
  rwa [show ((o + 1 : Nat) : Int) = (o : Int) + 1 by omega] at this
theorem NX.new (W : World) (k n : Int) (S : ByteArray) (v : Value) : NX (W.alloc (.cells #[.int .i64 k, .int .i64 n, .string S, v] 31)) W.heap.size k n S v := heap_alloc_new _ _
set_option maxHeartbeats 2000000 in
set_option maxRecDepth 100000 in
theorem runary_any {E : Nat → Nat → List Tk → PR Tr} {M : Nat} (hE : RE E M) (h : SP W b A N c toks o q) (ho : o ≤ 12) (s : List UInt8) (S : ByteArray) (hS : S = bs s) (hs0 : s ≠ []) (lv n : Nat) (hl1 : 1 ≤ lv) (hl7 : lv ≤ 7) (hn : LL (n + 1) q) (hM : 9 * n + (8 - lv) < M) :
    Calls Tryz.prog 89 #[.pointer (some ⟨b, 0, none⟩), .string S, .int .i64 (lv : Nat)] W (NdPost W b A N c toks o (unB E lv o s q)) := by
  have HH := Lib.hid h
  have HBL := Lib.hid h.lt
  have hoI : (o : Int) ≤ 12 := by omega
  have HX0 := Lib.hid ((Ext.refl W).alloc (.cells #[.int .i64 0, .int .i64 0, .string ⟨#[]⟩, .slice none 0 0] 31))
  have HN0 := Lib.hid (NX.new W 0 0 ⟨#[]⟩ (.slice none 0 0))
  have HOP := Lib.hid (fun X (hX : Ext W X) => ropens_any (h.ext hX) ho s S hS hs0)
  have HEX := Lib.hid (fun X (hX : SP X b A N c toks (o + 1) (opensB s o q)) => hE.2 α X b A N c toks (o + 1) lv n _ hX hl1 hl7 (hn.opens hs0 o) hM)
  have HS := Lib.hid hS
  have HO := Lib.hid ho
  clear h hS hs0 hn hM
  go_enter Tryz.func89, Tryz.ntmps89
  go_upto_region 1 with (fail)
  have hz0 : W.heap.size + 1 ≤ (W.alloc (.cells #[.int .i64 0, .int .i64 0, .string ⟨#[]⟩, .slice none 0 0] 31)).heap.size := by simp
  generalize W.alloc (.cells #[.int .i64 0, .int .i64 0, .string ⟨#[]⟩, .slice none 0 0] 31) = w0 at *
  go_wp2_with fail
  refine (HOP.out _ HX0.out).mono ?_
  rintro e w1 ⟨rfl, hp1, hm1⟩
  have HP1 := Lib.hid hp1
  have HM1 := Lib.hid ((Mv.of_ext (b := b) HX0.out).trans hm1)
  have HN1 := Lib.hid (HN0.out.mv hm1 (by have := HBL.out; omega))
  have hz1 := Nat.le_trans hz0 hm1.size
  clear hp1 hm1 hz0
  go_wp2_with fail
  refine (HEX.out _ HP1.out).mono ?_
  rintro e w2 ⟨d, t, rfl, hr2, hp2, hm2, hv2⟩
  have HR2 := Lib.hid hr2
  have HP2 := Lib.hid hp2
  have HM2 := Lib.hid (HM1.out.trans hm2)
  have HN2 := Lib.hid (HN1.out.mv hm2 (by have := HBL.out; omega))
  have HV2 := Lib.hid hv2
  have hz2 := Nat.le_trans hz1 hm2.size
  clear hp2 hm2 hr2 hv2
  go_upto_region 3 with (fail)
  have hx3 : Ext w2 (w2.alloc (.cells #[.int .i64 d.k, .int .i64 d.n, .string d.s, .slice d.A d.m d.c] 31)) := (Ext.refl _).alloc _
  have hn3 := NX.new w2 d.k d.n d.s (.slice d.A d.m d.c)
  generalize w2.alloc (.cells #[.int .i64 d.k, .int .i64 d.n, .string d.s, .slice d.A d.m d.c] 31) = w3 at *
  have hb2 : b < w2.heap.size := by have := HBL.out; omega
  have hz3 := Nat.le_trans hz2 hx3.lt
  have hw2 : W.heap.size < w2.heap.size := by omega
  generalize w2.heap.size = g7 at *
  have HP3 := Lib.hid (HP2.out.ext hx3)
  have HR3 := Lib.hid (HR2.out.ext hx3)
  have HM3 := Lib.hid (HM2.out.trans (Mv.of_ext hx3))
  obtain ⟨bl, c2, f2⟩ := HP3.out.c2'
  go_upto_region 4 with (fail)
  have hm4 : Mv b w3 (w3.setCell ⟨b, 2, none⟩ (.int .i64 o)) := Mv.set _
  have hp4 := HP3.out.close HO.out
  have HN4 := Lib.hid ((HN2.out.mv (Mv.of_ext (b := b) hx3) (by have := HBL.out; omega)).mv hm4 (by have := HBL.out; omega))
  have HK4 := Lib.hid (hn3.mv hm4 (by omega))
  generalize w3.setCell ⟨b, 2, none⟩ (.int .i64 o) = w4 at *
  have HP4 := Lib.hid hp4
  have HM4 := Lib.hid (HM3.out.trans hm4)
  have HR4 := Lib.hid (HR3.out.mv hm4 (fun k hk => by have := HBL.out; have := HM1.out.size; omega))
  have hz4 := Nat.le_trans hz3 hm4.size
  clear hm4 hp4 hn3 hx3 bl c2 f2
  obtain ⟨y0, y1, y2, y3, y4, _, _, _, _⟩ := HK4.out.nb
  obtain ⟨x0, x1, x2, x3, x4, x5, x6, x7, x8⟩ := HN4.out.nb
  have HF := Lib.hid (show Rep ((fin4 w4 W.heap.size (.int .i64 5) (.int .i64 0) (.string S) (.slice (some ⟨w4.heap.size, 0, none⟩) 1 1)).alloc (.cells #[.int .i64 d.k, .int .i64 d.n, .string d.s, .slice d.A d.m d.c] 31)) (fun k => W.heap.size ≤ k) ⟨5, 0, S, some ⟨w4.heap.size, 0, none⟩, 1, 1⟩ (.nd 5 0 s [t]) from by
    rw [HS.out]
    exact Rep.rowfin w4 (fun j => W.heap.size ≤ j) W.heap.size _ _ _ _ 5 0 s [d] [t] _ rfl rfl (by omega) (kids1 (HR4.out.mono fun k hk _ => ⟨by omega, by omega⟩)))
  go_wp2
  refine bodyPost_ret (v := .agg #[.int .i64 5, .int .i64 0, .string S, .slice (some ⟨w4.heap.size, 0, none⟩) 1 1]) (by simp [results, Tryz.results89, go_sem, *]) rfl ?_
  refine ⟨⟨5, 0, S, some ⟨w4.heap.size, 0, none⟩, 1, 1⟩, .nd 5 0 s [t], rfl, HF.out, ?_, (HM4.out.fin _ _ _ _).trans (Mv.of_ext ((Ext.refl _).alloc _)), ?_⟩
  · exact (HH.out.fin (HP4.out.map _) _ _ _ _).ext ((Ext.refl _).alloc _)
  · intro x t' r he
    obtain ⟨y, r1, h1, h2⟩ := PR.bind_inv he
    obtain ⟨h3, _⟩ := PR.ok_inj h2
    injection h3 with _ h4
    rw [← h4, HV2.out y.1 y.2 r1 h1]
def chB (E : Nat → Nat → List Tk → PR Tr) (o : Nat) (q : PR α) : PR (α × Tr) :=
  (mustB wEnd (exB E 1 (o + 1) (mustB wElse (exB E 1 (o + 1) (mustB wThen (exB E 1 (o + 1) (opensB wIf o q))))))).bind fun y r => .ok (y.1.1.1, .nd 9 0 [] [y.1.1.2, y.1.2, y.2]) r
theorem chB_eq (E : Nat → Nat → List Tk → PR Tr) (o : Nat) (q : PR α) : chB E o q = q.bind fun x r => (choiceP E o r).bind fun t r => .ok (x, t) r := by
  simp only [chB, exB, opensB, mustB, choiceP, PR.bind_assoc, PR.bind_ok]
set_option maxHeartbeats 4000000 in
set_option maxRecDepth 100000 in
theorem rchoice_any {E : Nat → Nat → List Tk → PR Tr} {M : Nat} (hE : RE E M) (h : SP W b A N c toks o q) (ho : o ≤ 12) (n : Nat) (hn : LL (n + 1) q) (hM : 9 * n + 7 < M) :
    Calls Tryz.prog 130 #[.pointer (some ⟨b, 0, none⟩)] W (NdPost W b A N c toks o (chB E o q)) := by
  have HH := Lib.hid h
  have HBL := Lib.hid h.lt
  have hoI : (o : Int) ≤ 12 := by omega
  have HX0 := Lib.hid ((Ext.refl W).alloc (.cells #[.int .i64 0, .int .i64 0, .string ⟨#[]⟩, .slice none 0 0] 31))
  have HN0 := Lib.hid (NX.new W 0 0 ⟨#[]⟩ (.slice none 0 0))
  have HOP := Lib.hid (fun X (hX : Ext W X) => ropens_any (h.ext hX) ho wIf ⟨#[105, 102]⟩ rfl (by decide))
  have hL1 := hn.opens (s := wIf) (by decide) o
  obtain ⟨q1, hq1⟩ : ∃ q1, q1 = opensB wIf o q := ⟨_, rfl⟩
  rw [← hq1] at HOP hL1
  have hL2 := hL1.ex hE (Nat.le_refl 1) (o + 1)
  have HE1 := Lib.hid (fun X (hX : SP X b A N c toks (o + 1) q1) => (show Calls Tryz.prog 41 #[.pointer (some ⟨b, 0, none⟩), .int .i64 1] X (NdPost X b A N c toks (o + 1) (exB E 1 (o + 1) q1)) from hE.2 α X b A N c toks (o + 1) 1 n _ hX (Nat.le_refl _) (by decide) hL1 hM))
  obtain ⟨q2, hq2⟩ : ∃ q2, q2 = exB E 1 (o + 1) q1 := ⟨_, rfl⟩
  rw [← hq2] at HE1 hL2
  have hL3 := hL2.must wThen
  obtain ⟨q3, hq3⟩ : ∃ q3, q3 = mustB wThen q2 := ⟨_, rfl⟩
  rw [← hq3] at hL3
  have hL4 := hL3.ex hE (Nat.le_refl 1) (o + 1)
  have HE2 := Lib.hid (fun X (hX : SP X b A N c toks (o + 1) q3) => (show Calls Tryz.prog 41 #[.pointer (some ⟨b, 0, none⟩), .int .i64 1] X (NdPost X b A N c toks (o + 1) (exB E 1 (o + 1) q3)) from hE.2 _ X b A N c toks (o + 1) 1 n _ hX (Nat.le_refl _) (by decide) hL3 hM))
  obtain ⟨q4, hq4⟩ : ∃ q4, q4 = exB E 1 (o + 1) q3 := ⟨_, rfl⟩
  rw [← hq4] at HE2 hL4
  have hL5 := hL4.must wElse
  obtain ⟨q5, hq5⟩ : ∃ q5, q5 = mustB wElse q4 := ⟨_, rfl⟩
  rw [← hq5] at hL5
  have HE3 := Lib.hid (fun X (hX : SP X b A N c toks (o + 1) q5) => (show Calls Tryz.prog 41 #[.pointer (some ⟨b, 0, none⟩), .int .i64 1] X (NdPost X b A N c toks (o + 1) (exB E 1 (o + 1) q5)) from hE.2 _ X b A N c toks (o + 1) 1 n _ hX (Nat.le_refl _) (by decide) hL5 hM))
  obtain ⟨q6, hq6⟩ : ∃ q6, q6 = exB E 1 (o + 1) q5 := ⟨_, rfl⟩
  rw [← hq6] at HE3
  have HC := Lib.hid (show chB E o q = (mustB wEnd q6).bind fun y r => .ok (y.1.1.1, .nd 9 0 [] [y.1.1.2, y.1.2, y.2]) r by rw [hq6, hq5, hq4, hq3, hq2, hq1]; rfl)
  have HQ2 := Lib.hid hq2
  have HQ3 := Lib.hid hq3
  have HQ4 := Lib.hid hq4
  have HQ5 := Lib.hid hq5
  have HQ6 := Lib.hid hq6
  have HO := Lib.hid ho
  clear h hn hM hL1 hL2 hL3 hL4 hL5 hq1 hq2 hq3 hq4 hq5 hq6
  go_enter Tryz.func130, Tryz.ntmps130
  go_upto_region 1 with (fail)
  have hz0 : W.heap.size + 1 ≤ (W.alloc (.cells #[.int .i64 0, .int .i64 0, .string ⟨#[]⟩, .slice none 0 0] 31)).heap.size := by simp
  generalize W.alloc (.cells #[.int .i64 0, .int .i64 0, .string ⟨#[]⟩, .slice none 0 0] 31) = w0 at *
  go_wp2_with fail
  refine (HOP.out _ HX0.out).mono ?_
  rintro e w1 ⟨rfl, hp1, hm1⟩
  have HP1 := Lib.hid hp1
  have HM1 := Lib.hid ((Mv.of_ext (b := b) HX0.out).trans hm1)
  have HN1 := Lib.hid (HN0.out.mv hm1 (by have := HBL.out; omega))
  have hz1 := Nat.le_trans hz0 hm1.size
  clear hp1 hm1 hz0
  go_wp2_with fail
  refine (HE1.out _ HP1.out).mono ?_
  rintro e w2 ⟨da, ta, rfl, hr, hp, hm, hv⟩
  have hx3 : Ext w2 (w2.alloc (.cells #[.int .i64 da.k, .int .i64 da.n, .string da.s, .slice da.A da.m da.c] 31)) := (Ext.refl _).alloc _
  have HVA := Lib.hid hv
  have HP2 := Lib.hid (hp.ext hx3)
  have HRA := Lib.hid ((hr.mono (Q := fun k => W.heap.size + 1 ≤ k) (fun k hk _ => by omega)).ext hx3)
  have hm2 := hm.trans (Mv.of_ext hx3)
  have HM2 := Lib.hid (HM1.out.trans hm2)
  have HN2 := Lib.hid (HN1.out.mv hm2 (by have := HBL.out; omega))
  have hz2 : W.heap.size + 1 ≤ w2.heap.size := Nat.le_trans hz1 hm.size
  have HKA := Lib.hid (NX.new w2 da.k da.n da.s (.slice da.A da.m da.c))
  clear hr hp hm hv hm2 hx3
  go_upto_region 3 with (fail)
  generalize w2.alloc (.cells #[.int .i64 da.k, .int .i64 da.n, .string da.s, .slice da.A da.m da.c] 31) = w3 at *
  generalize w2.heap.size = ga at *
  go_wp2_with fail
  refine (rmust_any HP2.out wThen ⟨#[116, 104, 101, 110]⟩ rfl (by decide)).mono ?_
  rintro e w4 ⟨rfl, hp, hm⟩
  rw [← HQ3.out] at hp
  have HP4 := Lib.hid hp
  have HM4 := Lib.hid (HM2.out.trans hm)
  have HN4 := Lib.hid (HN2.out.mv hm (by have := HBL.out; omega))
  have HRA4 := Lib.hid (HRA.out.mv hm (fun k hk => by have := HBL.out; omega))
  have HKA4 := Lib.hid (HKA.out.mv hm (by have := HBL.out; omega))
  have hz4 : W.heap.size + 1 ≤ w4.heap.size := by have := HM4.out.size; have := lt_of_block HKA4.out; omega
  clear hp hm
  go_wp2_with fail
  refine (HE2.out _ HP4.out).mono ?_
  rintro e w5 ⟨db, tb, rfl, hr, hp, hm, hv⟩
  have hx6 : Ext w5 (w5.alloc (.cells #[.int .i64 db.k, .int .i64 db.n, .string db.s, .slice db.A db.m db.c] 31)) := (Ext.refl _).alloc _
  have HVB := Lib.hid hv
  have HP5 := Lib.hid (hp.ext hx6)
  have HRB := Lib.hid ((hr.mono (Q := fun k => W.heap.size + 1 ≤ k) (fun k hk _ => by omega)).ext hx6)
  have hm2 := hm.trans (Mv.of_ext hx6)
  have HM5 := Lib.hid (HM4.out.trans hm2)
  have HN5 := Lib.hid (HN4.out.mv hm2 (by have := HBL.out; omega))
  have HRA5 := Lib.hid (HRA4.out.mv hm2 (fun k hk => by have := HBL.out; omega))
  have HKA5 := Lib.hid (HKA4.out.mv hm2 (by have := HBL.out; omega))
  have hz5 : W.heap.size + 1 ≤ w5.heap.size := Nat.le_trans hz4 hm.size
  have HKB := Lib.hid (NX.new w5 db.k db.n db.s (.slice db.A db.m db.c))
  clear hr hp hm hv hm2 hx6
  go_upto_region 5 with (fail)
  generalize w5.alloc (.cells #[.int .i64 db.k, .int .i64 db.n, .string db.s, .slice db.A db.m db.c] 31) = w6 at *
  generalize w5.heap.size = gb at *
  go_wp2_with fail
  refine (rmust_any HP5.out wElse ⟨#[101, 108, 115, 101]⟩ rfl (by decide)).mono ?_
  rintro e w7 ⟨rfl, hp, hm⟩
  rw [← HQ5.out] at hp
  have HP7 := Lib.hid hp
  have HM7 := Lib.hid (HM5.out.trans hm)
  have HN7 := Lib.hid (HN5.out.mv hm (by have := HBL.out; omega))
  have HRA7 := Lib.hid (HRA5.out.mv hm (fun k hk => by have := HBL.out; omega))
  have HKA7 := Lib.hid (HKA5.out.mv hm (by have := HBL.out; omega))
  have HRB7 := Lib.hid (HRB.out.mv hm (fun k hk => by have := HBL.out; omega))
  have HKB7 := Lib.hid (HKB.out.mv hm (by have := HBL.out; omega))
  have hz7 : W.heap.size + 1 ≤ w7.heap.size := by have := HM7.out.size; have := lt_of_block HKA7.out; omega
  clear hp hm
  go_wp2_with fail
  refine (HE3.out _ HP7.out).mono ?_
  rintro e w8 ⟨dc, tc, rfl, hr, hp, hm, hv⟩
  have hx9 : Ext w8 (w8.alloc (.cells #[.int .i64 dc.k, .int .i64 dc.n, .string dc.s, .slice dc.A dc.m dc.c] 31)) := (Ext.refl _).alloc _
  have HVC := Lib.hid hv
  have HP8 := Lib.hid (hp.ext hx9)
  have HRC := Lib.hid ((hr.mono (Q := fun k => W.heap.size + 1 ≤ k) (fun k hk _ => by omega)).ext hx9)
  have hm2 := hm.trans (Mv.of_ext hx9)
  have HM8 := Lib.hid (HM7.out.trans hm2)
  have HN8 := Lib.hid (HN7.out.mv hm2 (by have := HBL.out; omega))
  have HRA8 := Lib.hid (HRA7.out.mv hm2 (fun k hk => by have := HBL.out; omega))
  have HKA8 := Lib.hid (HKA7.out.mv hm2 (by have := HBL.out; omega))
  have HRB8 := Lib.hid (HRB7.out.mv hm2 (fun k hk => by have := HBL.out; omega))
  have HKB8 := Lib.hid (HKB7.out.mv hm2 (by have := HBL.out; omega))
  have hz8 : W.heap.size + 1 ≤ w8.heap.size := Nat.le_trans hz7 hm.size
  have HKC := Lib.hid (NX.new w8 dc.k dc.n dc.s (.slice dc.A dc.m dc.c))
  clear hr hp hm hv hm2 hx9
  go_upto_region 7 with (fail)
  generalize w8.alloc (.cells #[.int .i64 dc.k, .int .i64 dc.n, .string dc.s, .slice dc.A dc.m dc.c] 31) = w9 at *
  generalize w8.heap.size = gc at *
  go_wp2_with fail
  refine (rmust_any HP8.out wEnd ⟨#[101, 110, 100]⟩ rfl (by decide)).mono ?_
  rintro e wa ⟨rfl, hp, hm⟩
  have HPA := Lib.hid hp
  have HMA := Lib.hid (HM8.out.trans hm)
  have HNA := Lib.hid (HN8.out.mv hm (by have := HBL.out; omega))
  have HRAA := Lib.hid (HRA8.out.mv hm (fun k hk => by have := HBL.out; omega))
  have HKAA := Lib.hid (HKA8.out.mv hm (by have := HBL.out; omega))
  have HRBA := Lib.hid (HRB8.out.mv hm (fun k hk => by have := HBL.out; omega))
  have HKBA := Lib.hid (HKB8.out.mv hm (by have := HBL.out; omega))
  have HRCA := Lib.hid (HRC.out.mv hm (fun k hk => by have := HBL.out; omega))
  have HKCA := Lib.hid (HKC.out.mv hm (by have := HBL.out; omega))
  clear hp hm
  obtain ⟨bl, c2, f2⟩ := HPA.out.c2'
  go_upto_region 9 with (fail)
  have hm4 : Mv b wa (wa.setCell ⟨b, 2, none⟩ (.int .i64 o)) := Mv.set _
  have hp4 := HPA.out.close HO.out
  generalize wa.setCell ⟨b, 2, none⟩ (.int .i64 o) = wb at *
  have HPB := Lib.hid hp4
  have HMB := Lib.hid (HMA.out.trans hm4)
  have HNB := Lib.hid (HNA.out.mv hm4 (by have := HBL.out; omega))
  have HRAB := Lib.hid (HRAA.out.mv hm4 (fun k hk => by have := HBL.out; omega))
  have HKAB := Lib.hid (HKAA.out.mv hm4 (by have := HBL.out; omega))
  have HRBB := Lib.hid (HRBA.out.mv hm4 (fun k hk => by have := HBL.out; omega))
  have HKBB := Lib.hid (HKBA.out.mv hm4 (by have := HBL.out; omega))
  have HRCB := Lib.hid (HRCA.out.mv hm4 (fun k hk => by have := HBL.out; omega))
  have HKCB := Lib.hid (HKCA.out.mv hm4 (by have := HBL.out; omega))
  have hzb : W.heap.size + 1 ≤ wb.heap.size := by have := lt_of_block HKAB.out; omega
  clear hm4 hp4 bl c2 f2
  obtain ⟨y0, y1, y2, y3, y4, _, _, _, _⟩ := HKAB.out.nb
  obtain ⟨z0, z1, z2, z3, z4, _, _, _, _⟩ := HKBB.out.nb
  obtain ⟨u0, u1, u2, u3, u4, _, _, _, _⟩ := HKCB.out.nb
  obtain ⟨x0, x1, x2, x3, x4, x5, x6, x7, x8⟩ := HNB.out.nb
  have HF := Lib.hid (show Rep ((fin4 wb W.heap.size (.int .i64 9) (.int .i64 0) (.string ⟨#[]⟩) (.slice (some ⟨wb.heap.size, 0, none⟩) 3 3)).alloc (.cells #[.int .i64 da.k, .int .i64 da.n, .string da.s, .slice da.A da.m da.c, .int .i64 db.k, .int .i64 db.n, .string db.s, .slice db.A db.m db.c, .int .i64 dc.k, .int .i64 dc.n, .string dc.s, .slice dc.A dc.m dc.c] 31)) (fun k => W.heap.size ≤ k) ⟨9, 0, ⟨#[]⟩, some ⟨wb.heap.size, 0, none⟩, 3, 3⟩ (.nd 9 0 [] [ta, tb, tc]) from by
    exact Rep.rowfin wb (fun j => W.heap.size ≤ j) W.heap.size _ _ _ _ 9 0 [] [da, db, dc] [ta, tb, tc] _ rfl rfl (by omega) (kids3 (HRAB.out.mono fun k hk _ => ⟨by omega, by omega⟩) (HRBB.out.mono fun k hk _ => ⟨by omega, by omega⟩) (HRCB.out.mono fun k hk _ => ⟨by omega, by omega⟩)))
  go_wp2
  refine bodyPost_ret (v := .agg #[.int .i64 9, .int .i64 0, .string ⟨#[]⟩, .slice (some ⟨wb.heap.size, 0, none⟩) 3 3]) (by simp [results, Tryz.results130, go_sem, *]) rfl ?_
  refine ⟨⟨9, 0, ⟨#[]⟩, some ⟨wb.heap.size, 0, none⟩, 3, 3⟩, .nd 9 0 [] [ta, tb, tc], rfl, HF.out, ?_, (HMB.out.fin _ _ _ _).trans (Mv.of_ext ((Ext.refl _).alloc _)), ?_⟩
  · rw [HC.out]; exact (HH.out.fin (HPB.out.map _) _ _ _ _).ext ((Ext.refl _).alloc _)
  · intro x t' r he
    rw [HC.out] at he
    obtain ⟨y, r1, h1, h2⟩ := PR.bind_inv he
    obtain ⟨h3, _⟩ := PR.ok_inj h2
    injection h3 with _ h4
    obtain ⟨r2, h5⟩ := mustB_inv h1
    have e3 := HVC.out y.1 y.2 r2 h5
    rw [HQ6.out] at h5
    obtain ⟨r3, h6⟩ := exB_inv (x := y.1) (t := y.2) h5
    rw [HQ5.out] at h6
    obtain ⟨r4, h7⟩ := mustB_inv h6
    have e2 := HVB.out y.1.1 y.1.2 r4 h7
    rw [HQ4.out] at h7
    obtain ⟨r5, h8⟩ := exB_inv (x := y.1.1) (t := y.1.2) h7
    rw [HQ3.out] at h8
    obtain ⟨r6, h9⟩ := mustB_inv h8
    have e1 := HVA.out y.1.1.1 y.1.1.2 r6 h9
    rw [← h4, e1, e2, e3]
end
end Go.Proofs.YtnpenepdechkjaaGreatDoor

/- The reference's call. -/
namespace Go.Proofs.YtnpenepdechkjaaGreatDoor
open Go Go.RowKit

theorem fun_low : ∀ s ∈ functions ++ fields, ∃ c r, s = c :: r ∧ low c = true := by
  intro s hs
  simp only [functions, fields, List.cons_append, List.nil_append, List.mem_cons, List.not_mem_nil, or_false] at hs
  rcases hs with rfl | rfl | rfl | rfl | rfl | rfl | rfl | rfl | rfl | rfl | rfl | rfl <;> exact ⟨_, _, rfl, by decide⟩
theorem WfT.kd1 {l : List Tk} (h : WfT l) {t : Tk} (ht : t ∈ l) (hs : t.tx ∈ functions ++ fields) : t.kd = 1 := by
  obtain ⟨c, r, e, hc⟩ := fun_low _ hs
  exact h.word ht e hc
section
variable {α : Type} {W W' X : World} {b : Nat} {A : Option Addr} {N c : Nat} {toks : List Tk} {o : Nat} {q : PR α}
def caB (E : Nat → Nat → List Tk → PR Tr) (o : Nat) (s : List UInt8) (m : Nat) (ts : List Tr) (q : PR α) : PR (α × Tr) := q.bind fun x r => (caR E o s m ts r).bind fun t r => .ok (x, t) r
theorem caB_end (E : Nat → Nat → List Tk → PR Tr) (o : Nat) (s : List UInt8) (ts : List Tr) (q : PR α) : caB E o s 0 ts q = (mustB wClose q).bind fun x r => .ok (x, .nd 10 0 s ts) r := by
  simp only [caB, caR, mustB, PR.bind_assoc, PR.bind_ok]
theorem caB_next (E : Nat → Nat → List Tk → PR Tr) (o : Nat) (s : List UInt8) (m : Nat) (ts : List Tr) (q q' : PR α) (hq : q' = if ts.length = 0 then q else mustB wComma q) (tb : Tr) (hv : ∀ x t' r, exB E 1 (o + 1) q' = .ok (x, t') r → tb = t') :
    caB E o s m (ts ++ [tb]) ((exB E 1 (o + 1) q').bind fun y r => .ok y.1 r) = caB E o s (m + 1) ts q := by
  have e : caB E o s (m + 1) ts q = (exB E 1 (o + 1) q').bind fun y r => (caR E o s m (ts ++ [y.2]) r).bind fun t r => .ok (y.1, t) r := by
    rw [hq]
    by_cases h0 : ts.length = 0
    · simp only [caB, caR, exB, h0, if_true, PR.bind_assoc, PR.bind_ok]
    · simp only [caB, caR, exB, mustB, h0, if_false, PR.bind_assoc, PR.bind_ok]
  rw [e]
  cases hx : exB E 1 (o + 1) q' with
  | bad r er => rfl
  | ok y r =>
    obtain ⟨x, t'⟩ := y
    rw [hv x t' r hx]; rfl
def CrRel (W : World) (b : Nat) (A : Option Addr) (N c : Nat) (toks : List Tk) (o : Nat) (E : Nat → Nat → List Tk → PR Tr) (s : List UInt8) (S : ByteArray) (n L : Nat) (RES : PR (α × Tr)) (g4 g5 : Nat) (s6 : Value) (X : World) : Prop :=
  ∃ (k : Nat) (A3 : Option Addr) (c3 : Nat) (hs : List Nd) (ts : List Tr) (qk : PR α), k ≤ n ∧ s6 = .int .i64 k ∧ hs.length = k ∧ SP X b A N c toks (o + 1) qk ∧ LL L qk ∧ NX X g5 10 0 S (.slice A3 k c3) ∧ KR X (W.heap.size + 1) g5 (.slice A3 k c3) hs ts ∧
    NX X g4 0 0 ⟨#[]⟩ (.slice none 0 0) ∧ caB E o s (n - k) ts qk = RES ∧ Mv b W X
def callB (E : Nat → Nat → List Tk → PR Tr) (o : Nat) (x : α) (r : List Tk) : PR (α × Tr) := (callP E o r).bind fun t r => .ok (x, t) r
theorem callB_eq {E : Nat → Nat → List Tk → PR Tr} {o : Nat} {x : α} {r : List Tk} (hk : (hd r).kd = 1) (hf : (hd r).tx ∈ functions) : callB E o x r = caB E o (hd r).tx (argN (hd r).tx) [] (opensB wOpen o (.ok x r.tail)) := by
  rw [callB, call_ca, tokP, if_pos hk, PR.bind_ok, (argN_fun (s := (hd r).tx)).2 hf]
  simp only [caB, opensB, PR.bind_assoc, PR.bind_ok]
set_option maxHeartbeats 4000000 in
set_option maxRecDepth 100000 in
theorem rcallf_any {E : Nat → Nat → List Tk → PR Tr} {M : Nat} (hE : RE E M) {x : α} {r : List Tk} (h : SP W b A N c toks o (.ok x r)) (ho : o ≤ 12) (hf : (hd r).tx ∈ functions) (S : ByteArray) (hS : S = bs (hd r).tx) (n0 : Nat) (hn : r.length ≤ n0 + 1) (hM : 9 * n0 + 7 < M) :
    Calls Tryz.prog 132 #[.pointer (some ⟨b, 0, none⟩), .string S] W (NdPost W b A N c toks o (callB E o x r)) := by
  have HH := Lib.hid h
  have HBL := Lib.hid h.lt
  have hoI : (o : Int) ≤ 12 := by omega
  obtain ⟨ho2, a, rfl, hs⟩ := h
  have hk1 : (hd (toks.drop a)).kd = 1 := hs.wf.kd1 hs.hd_mem.1 (List.mem_append_left _ hf)
  have hgo : a + 1 < N := hs.go (by rw [hk1]; decide)
  rw [callB_eq hk1 hf]
  obtain ⟨s, hsx⟩ : ∃ s, s = (hd (toks.drop a)).tx := ⟨_, rfl⟩
  rw [← hsx] at hS ⊢
  have HAR := Lib.hid (fun X => rargs_any s S hS X)
  obtain ⟨n, hnn⟩ : ∃ n, n = argN s := ⟨_, rfl⟩
  rw [← hnn] at HAR ⊢
  have hn2 : n ≤ 2 := by rw [hnn]; unfold argN; split; · omega
                         split <;> omega
  obtain ⟨RES, hres⟩ : ∃ R, R = caB E o s n [] (opensB wOpen o (PR.ok x (toks.drop a).tail)) := ⟨_, rfl⟩
  rw [← hres]
  have HRES := Lib.hid hres
  have HS := Lib.hid hS
  have HST := Lib.hid hs
  have HO := Lib.hid ho
  have haJ : (a : Int) ≤ 100000 := by have := hs.nb; have := hs.at_; omega
  have HL1 := Lib.hid (show LL n0 (opensB wOpen o (PR.ok x (toks.drop a).tail)) from by
    intro y r' e
    obtain ⟨_, r1, h1, h2⟩ := PR.bind_inv e
    obtain ⟨_, r2, h3, h4⟩ := PR.bind_inv h2
    obtain ⟨_, rfl⟩ := PR.ok_inj h4
    obtain ⟨_, rfl⟩ := PR.ok_inj h1
    have := (opens_ok h3).1
    rw [this]; simp only [List.length_tail]; omega)
  have HX0 := Lib.hid ((Ext.refl W).alloc (.cells #[.int .i64 0, .int .i64 0, .string ⟨#[]⟩, .slice none 0 0] 31))
  have HN0 := Lib.hid (NX.new W 0 0 ⟨#[]⟩ (.slice none 0 0))
  have HTL := Lib.hid hs.hd_mem.2.2
  clear hS hs hres hsx hnn hk1 hf hn
  go_enter Tryz.func132, Tryz.ntmps132
  go_upto_region 1 with (fail)
  have hz0 : W.heap.size + 1 ≤ (W.alloc (.cells #[.int .i64 0, .int .i64 0, .string ⟨#[]⟩, .slice none 0 0] 31)).heap.size := by simp
  generalize W.alloc (.cells #[.int .i64 0, .int .i64 0, .string ⟨#[]⟩, .slice none 0 0] 31) = w0 at *
  have hs0 := HST.out.ext HX0.out
  have HS0 := Lib.hid hs0
  have c1 := hs0.c1
  have f1 := hs0.fz 1
  have bl := hs0.lt
  clear hs0
  go_upto_region 2 with (fail)
  have hst := HS0.out.set1 (a + 1) hgo
  rw [show (((a + 1 : Nat) : Int)) = (a : Int) + 1 by omega] at hst
  have hm1 : Mv b w0 (w0.setCell ⟨b, 1, none⟩ (.int .i64 ((a : Int) + 1))) := Mv.set _
  generalize w0.setCell ⟨b, 1, none⟩ (.int .i64 ((a : Int) + 1)) = w1 at *
  have HP1 := Lib.hid (show SP w1 b A N c toks o (PR.ok x (toks.drop a).tail) from ⟨HO.out, a + 1, HTL.out, hst⟩)
  have HM1 := Lib.hid ((Mv.of_ext (b := b) HX0.out).trans hm1)
  have HN1 := Lib.hid (HN0.out.mv hm1 (by have := HBL.out; omega))
  have hz1 := Nat.le_trans hz0 hm1.size
  clear hst hm1 c1 f1 bl hz0
  go_wp2_with fail
  refine (ropens_any HP1.out HO.out wOpen ⟨#[40]⟩ rfl (by decide)).mono ?_
  rintro e w2 ⟨rfl, hp2, hm2⟩
  have HP2 := Lib.hid hp2
  have HM2 := Lib.hid (HM1.out.trans hm2)
  have HN2 := Lib.hid (HN1.out.mv hm2 (by have := HBL.out; omega))
  have hz2 := Nat.le_trans hz1 hm2.size
  clear hp2 hm2
  go_upto_region 4 with (fail)
  have hx3 : Ext w2 (w2.alloc (.cells #[.int .i64 10, .int .i64 0, .string S, .slice none 0 0] 31)) := (Ext.refl _).alloc _
  have hn3 := NX.new w2 10 0 S (.slice none 0 0)
  have hg45 : W.heap.size < w2.heap.size := by omega
  generalize w2.alloc (.cells #[.int .i64 10, .int .i64 0, .string S, .slice none 0 0] 31) = w3 at *
  generalize w2.heap.size = g5 at *
  obtain ⟨g4, hg4⟩ : ∃ g, g = W.heap.size := ⟨_, rfl⟩
  have HG4 := Lib.hid hg4
  have HSTT := Lib.hid (show CrRel W b A N c toks o E s S n n0 RES g4 g5 (.int .i64 0) w3 from
    ⟨0, none, 0, [], [], _, Nat.zero_le _, rfl, rfl, HP2.out.ext hx3, HL1.out, hn3, KR.nil _ _ _, by rw [hg4]; exact HN2.out.mv (Mv.of_ext (b := b) hx3) (by have := HBL.out; omega), HRES.out.symm, HM2.out.trans (Mv.of_ext hx3)⟩)
  rw [← hg4] at hg45 ⊢
  have hbg : b < g4 := by rw [hg4]; exact HBL.out
  clear hg4 hx3 hn3 HP2 HM2 HN2 HP1 HM1 HN1 HN0 HX0
  go_wp2_with fail
  go_loopw [6] (fun s6 X => CrRel W b A N c toks o E s S n n0 RES g4 g5 s6 X) (fun s6 _ => toM 3 s6)
  case atStart => exact HSTT.out
  case round =>
    clear HSTT
    obtain ⟨k, A3, c3, hs, ts, qk, hkn, rfl, hhl, hsp, hll, hnx, hkr, hn4, hcb, hmv⟩ := hrel
    have HSP := Lib.hid hsp
    have HLL := Lib.hid hll
    have HNX := Lib.hid hnx
    have HKR := Lib.hid hkr
    have HN4 := Lib.hid hn4
    have HCB := Lib.hid hcb
    have HMV := Lib.hid hmv
    have HHL := Lib.hid hhl
    clear hsp hll hnx hkr hn4 hcb hmv hhl
    by_cases hlt : k < n
    case neg =>
      obtain rfl : k = n := by omega
      have hni : ¬ (k : Int) < (k : Int) := by omega
      have hcb := HCB.out
      rw [Nat.sub_self, caB_end] at hcb
      have HC := Lib.hid hcb
      clear hcb hlt hkn
      go_wp2_with fail
      refine (HAR.out _).mono ?_
      rintro e w4 ⟨rfl, hx4⟩
      have HP4 := Lib.hid (HSP.out.ext hx4)
      have HX4 := Lib.hid hx4
      clear hx4
      go_wp2_with fail
      refine (rmust_any HP4.out wClose ⟨#[41]⟩ rfl (by decide)).mono ?_
      rintro e w5 ⟨rfl, hp5, hm5⟩
      have hm45 := (Mv.of_ext (b := b) HX4.out).trans hm5
      have HP5 := Lib.hid hp5
      have HNX5 := Lib.hid (HNX.out.mv hm45 (by omega))
      have HKR5 := Lib.hid (HKR.out.mv hm45 (by have := HG4.out; omega))
      have HN45 := Lib.hid (HN4.out.mv hm45 (by omega))
      have HM5 := Lib.hid (HMV.out.trans hm45)
      clear hp5 hm5 hm45
      obtain ⟨bl, c2, f2⟩ := HP5.out.c2'
      go_upto_region 12 with (fail)
      have hm6 : Mv b w5 (w5.setCell ⟨b, 2, none⟩ (.int .i64 o)) := Mv.set _
      have hp6 := HP5.out.close HO.out
      generalize w5.setCell ⟨b, 2, none⟩ (.int .i64 o) = w6 at *
      have HP6 := Lib.hid hp6
      have HNX6 := Lib.hid (HNX5.out.mv hm6 (by omega))
      have HKR6 := Lib.hid (HKR5.out.mv hm6 (by have := HG4.out; omega))
      have HN46 := Lib.hid (HN45.out.mv hm6 (by omega))
      have HM6 := Lib.hid (HM5.out.trans hm6)
      clear hp6 hm6 bl c2 f2
      obtain ⟨y0, y1, y2, y3, y4, _, _, _, _⟩ := HNX6.out.nb
      obtain ⟨x0, x1, x2, x3, x4, x5, x6, x7, x8⟩ := HN46.out.nb
      have HR := Lib.hid (show Rep w6 (fun j => W.heap.size + 1 ≤ j) ⟨10, 0, S, A3, k, c3⟩ (.nd 10 0 s ts) from by
        obtain ⟨A9, c9, e9, hr9⟩ := HKR6.out.rep 10 0 s
        rw [HHL.out] at e9 hr9
        injection e9 with e1 e2 e3
        rw [HS.out, e1, e3]
        exact hr9.mono fun j hj _ => hj.1)
      go_wp2
      refine bodyPost_ret (v := .agg #[.int .i64 10, .int .i64 0, .string S, .slice A3 k c3]) (by simp [results, Tryz.results132, go_sem, *]) rfl ?_
      refine ⟨⟨10, 0, S, A3, k, c3⟩, .nd 10 0 s ts, rfl, ?_, ?_, ?_, ?_⟩
      · rw [HG4.out]; exact Rep.fin HR.out (by omega) _ _ _ _
      · rw [HG4.out, ← HC.out]; exact HH.out.fin (HP6.out.map _) _ _ _ _
      · rw [HG4.out]; exact HM6.out.fin _ _ _ _
      · intro x' t' r' he
        rw [← HC.out] at he
        obtain ⟨y, r1, _, h2⟩ := PR.bind_inv he
        obtain ⟨h3, _⟩ := PR.ok_inj h2
        injection h3
    have hkI : (k : Int) < (n : Int) := by omega
    have hnk : n - k = (n - (k + 1)) + 1 := by omega
    have hcb := HCB.out
    rw [hnk] at hcb
    have HCB1 := Lib.hid hcb
    clear hcb
    obtain ⟨q', hq'⟩ : ∃ q', q' = if ts.length = 0 then qk else mustB wComma qk := ⟨_, rfl⟩
    have HQ' := Lib.hid hq'
    have HTS := Lib.hid (show ts.length = k from by rw [← HKR.out.2.1]; exact HHL.out)
    have HLL' := Lib.hid (show LL n0 q' from by
      rw [hq']
      split
      · exact HLL.out
      · exact HLL.out.must _)
    clear hq'
    go_upto_if 25 with (first | (go_at_call 131; refine (HAR.out _).mono ?_; rintro e w4 ⟨rfl, hx4⟩))
    have HX4 := Lib.hid hx4
    have HP4 := Lib.hid (HSP.out.ext hx4)
    clear hx4
    go_cut [6] (fun s6 wx => s6 = .int .i64 k ∧ SP wx b A N c toks (o + 1) q' ∧ Mv b wr wx)
    case first =>
      by_cases hk0 : k = 0
      · have t0 : ¬ (0 : Int) < (k : Int) := by omega
        have HF := Lib.hid (show q' = qk by rw [HQ'.out, HTS.out, if_pos hk0])
        clear hk0
        go_wp2_with fail
        go_meet
        case rel => exact ⟨rfl, by rw [HF.out]; exact HP4.out, Mv.of_ext HX4.out⟩
      · have t0 : (0 : Int) < (k : Int) := by omega
        have HF := Lib.hid (show q' = mustB wComma qk by rw [HQ'.out, HTS.out, if_neg hk0])
        clear hk0
        go_wp2_with fail
        refine (rmust_any HP4.out wComma ⟨#[44]⟩ rfl (by decide)).mono ?_
        rintro e w5 ⟨rfl, hp5, hm5⟩
        have HP5 := Lib.hid hp5
        have HM5 := Lib.hid hm5
        clear hp5 hm5
        go_wp2_with fail
        go_meet
        case rel => exact ⟨rfl, by rw [HF.out]; exact HP5.out, (Mv.of_ext HX4.out).trans HM5.out⟩
    case rest =>
    obtain ⟨rfl, hp5, hm5⟩ := hcut
    have HP5 := Lib.hid hp5
    have HM5 := Lib.hid hm5
    have HNX5 := Lib.hid (HNX.out.mv hm5 (by omega))
    have HKR5 := Lib.hid (HKR.out.mv hm5 (by have := HG4.out; omega))
    have HN45 := Lib.hid (HN4.out.mv hm5 (by omega))
    have HE5 := Lib.hid (show Calls Tryz.prog 41 #[.pointer (some ⟨b, 0, none⟩), .int .i64 1] wc.drew (NdPost wc.drew b A N c toks (o + 1) (exB E 1 (o + 1) q')) from hE.2 α wc.drew b A N c toks (o + 1) 1 n0 q' (hp5.ext (Ext.refl _).drew) (Nat.le_refl _) (by decide) HLL'.out hM)
    have e3 := HNX5.out.nb.c3
    have hbs : b < W.heap.size + 1 := by have := HBL.out; omega
    have h5s : W.heap.size + 1 ≤ wc.heap.size := by have := lt_of_block HNX5.out; have := HG4.out; omega
    have hg35 : g5 < wc.heap.size := lt_of_block HNX5.out
    have hk5 : hs.length ≤ 100 := by have := HHL.out; omega
    clear hp5 hm5 HP4 HX4
    go_upto_region 9 with (fail)
    go_region_law (first
      | (go_simp; go_at_call 41; refine (HE5.out).mono ?_; rintro e w6 ⟨d2, tb, rfl, hrep, hp6, hm6, hv6⟩; have hm56 : Mv b wc w6 := (Mv.of_ext (Ext.refl _).drew).trans hm6; obtain ⟨A7, c7, w7, hrun, hkr7, hbel, hkeep, hsz7, hown7⟩ := KR.append (HKR5.out.mv hm56 hbs) (W := wc) (fun k hk => (HKR5.out.lt k hk).2) hg35 d2 tb hrep h5s hm56.size hk5 w6.heap.size rfl; rw [HHL.out] at hrun hkr7 hown7; have HNX6 := Lib.hid (HNX5.out.mv hm56 (by omega)); have e3a := HNX6.out.nb.c3; have e3b := (NX.mv (b := b) HNX6.out (Mv.of_ext ((Ext.refl _).alloc (.cells #[.int .i64 d2.k, .int .i64 d2.n, .string d2.s, .slice d2.A d2.m d2.c] 31))) (by omega)).nb.c3; have HRUN := Lib.hid hrun; have HKR7 := Lib.hid hkr7; have HNX7 := Lib.hid (show NX w7 g5 10 0 S (.slice A3 k c3) from (hkeep g5 (lt_of_block HNX6.out) HKR5.out.2.2.1).trans HNX6.out); have e37 := HNX7.out.nb.c3; have f37 := HNX7.out.nb.f3; have HKEEP := Lib.hid hkeep; have HBEL := Lib.hid hbel; have HP6 := Lib.hid hp6; have HV6 := Lib.hid hv6; have HSZ7 := Lib.hid hsz7; have HOWN7 := Lib.hid hown7; clear hrep hkr7 hrun hkeep hbel hp6 hsz7 hown7 hv6; simp only [])
      | (refine step_append_run (s := .tmp 29) (x := .tmp 32) HRUN.out rfl rfl rfl rfl rfl ?_))
    all_goals
      go_wp2
      have hmW := (HMV.out.trans HM5.out).trans hm56
      have hown : ∀ k9, (Value.slice A3 k c3).ownBlock = some k9 → W.heap.size + 1 ≤ k9 := fun k9 e => (HKR5.out.lt k9 e).1
      have hm7 := hmW.grow HBL.out (Nat.le_succ _) HBEL.out HKEEP.out hown HSZ7.out
      have hg5W : W.heap.size ≤ g5 := by have := HG4.out; omega
      have hne54 : g4 ≠ g5 := by omega
      have hp7 : SP w7 b A N c toks (o + 1) ((exB E 1 (o + 1) q').bind fun y r => .ok y.1 r) := HH.out.keepN (HP6.out.map _) (fun k9 h9 => HKEEP.out k9 (Nat.lt_of_lt_of_le h9 hmW.size) (fun e => by have := hown k9 e; omega))
      have hn47 : NX w7 g4 0 0 ⟨#[]⟩ (.slice none 0 0) := (HKEEP.out g4 (lt_of_block (HN45.out.mv hm56 (by omega))) (fun e => by have := hown g4 e; have := HG4.out; omega)).trans (HN45.out.mv hm56 (by omega))
      refine ⟨⟨k + 1, A7, c7, hs ++ [d2], ts ++ [tb], (exB E 1 (o + 1) q').bind fun y r => .ok y.1 r, by omega, by simp, by simp [HHL.out], ?_, ?_, ?_, ?_, ?_, ?_, ?_⟩, by simp only [toM]; omega⟩
      · exact HH.out.keepN hp7 (fun k9 h9 => heap_setCell_other _ _ _ _ (by simp only; omega))
      · intro y r' e
        obtain ⟨z, r1, h1, h2⟩ := PR.bind_inv e
        obtain ⟨_, rfl⟩ := PR.ok_inj h2
        exact HLL'.out.ex hE (Nat.le_refl 1) (o + 1) z _ h1
      · exact (heap_setCell_same _ g5 3 _ 31 _ HNX7.out).trans rfl
      · exact HKR7.out.keep (by simp) (fun k9 h1 h2 h3 => heap_setCell_other _ _ _ _ h2)
      · exact (heap_setCell_other _ _ _ _ hne54).trans hn47
      · exact (caB_next E o s _ ts qk q' HQ'.out tb HV6.out).trans HCB1.out
      · exact hm7.setNew (p := ⟨g5, 3, none⟩) hg5W _
end
end Go.Proofs.YtnpenepdechkjaaGreatDoor
