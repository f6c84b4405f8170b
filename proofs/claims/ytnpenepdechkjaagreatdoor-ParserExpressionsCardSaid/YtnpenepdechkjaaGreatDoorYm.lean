/- The reference's rule. -/
import Derived.Test.YtnpenepdechkjaaGreatDoorMl
import Derived.Test.YtnpenepdechkjaaGreatDoorMd
import Derived.Test.YtnpenepdechkjaaGreatDoorMf
namespace Go.Proofs.YtnpenepdechkjaaGreatDoor
open Go Go.RowKit

section
variable {α : Type} {W W' X X' : World} {b : Nat} {A : Option Addr} {N c : Nat} {toks : List Tk} {o : Nat} {q : PR α}
/-- An optional part. -/
def ptB {β : Type} (w : List UInt8) (d : β) (rd : List Tk → PR β) (q : PR α) : PR (α × β) := q.bind fun x r => (partP w d rd r).bind fun t r => .ok (x, t) r
def rdB {β : Type} (rd : List Tk → PR β) (q : PR α) : PR (α × β) := q.bind fun x r => (rd r).bind fun t r => .ok (x, t) r
theorem ptB_yes {β : Type} {w : List UInt8} {q : PR α} (h : isP w q = true) (d : β) (rd : List Tk → PR β) : ptB w d rd q = mustB wSemi (rdB rd (takeP w q)) := by
  cases q with
  | bad r e => cases h
  | ok x r =>
    have hx : (hd r).tx = w := by simpa [isP] using h
    simp only [ptB, takeP, hx, if_true, rdB, mustB, PR.bind_ok, partP, PR.bind_assoc]
theorem ptB_no {β : Type} {w : List UInt8} {q : PR α} (h : isP w q = false) (d : β) (rd : List Tk → PR β) : ptB w d rd q = q.bind fun x r => .ok (x, d) r := by
  cases q with
  | bad r e => rfl
  | ok x r =>
    have hx : ¬ (hd r).tx = w := by simpa [isP] using h
    simp only [ptB, hx, if_false, PR.bind_ok, partP]
theorem rdB_inv {β : Type} {rd : List Tk → PR β} {x : α} {t : β} {r : List Tk} (h : rdB rd q = .ok (x, t) r) : ∃ r', q = .ok x r' := by
  obtain ⟨y, r1, h1, h2⟩ := PR.bind_inv h
  obtain ⟨u, r2, h3, h4⟩ := PR.bind_inv h2
  obtain ⟨h5, _⟩ := PR.ok_inj h4
  injection h5 with h6 _
  exact ⟨r1, h6 ▸ h1⟩
theorem ptB_inv {β : Type} {w : List UInt8} {d : β} {rd : List Tk → PR β} {x : α} {t : β} {r : List Tk} (h : ptB w d rd q = .ok (x, t) r) : ∃ r', q = .ok x r' := rdB_inv h
/-- Where the walk stands: the rule so far lies in the block g. -/
structure RU {β : Type} (W : World) (b : Nat) (A : Option Addr) (N c : Nat) (toks : List Tk) (g : Nat) (d : RlD) (ti td : Tr) (q : PR β) (X : World) : Prop where
  sp : SP X b A N c toks 0 q
  rx : RX X g d
  r2 : RX X W.heap.size rl0
  ri : Rep X (fun j => W.heap.size + 1 ≤ j ∧ j ≠ g) d.if_ ti
  rd : Rep X (fun j => W.heap.size + 1 ≤ j ∧ j ≠ g) d.due td
  mv : Mv b W X
  bl : b < W.heap.size
  gl : W.heap.size + 1 ≤ g
section
variable {g : Nat} {d : RlD} {ti td : Tr}
theorem RU.go {β : Type} {q2 : PR β} (h : RU W b A N c toks g d ti td q X) (hm : Mv b X X') (hp : SP X' b A N c toks 0 q2) : RU W b A N c toks g d ti td q2 X' :=
  ⟨hp, h.rx.mv hm (by have := h.bl; have := h.gl; omega), h.r2.mv hm (by have := h.bl; omega), h.ri.mv hm (fun k hk e => by have := h.bl; omega), h.rd.mv hm (fun k hk e => by have := h.bl; omega), h.mv.trans hm, h.bl, h.gl⟩
theorem RU.st {β : Type} {o0 : Nat} {q0 : PR β} (h0 : SP W b A N c toks o0 q0) (h : RU W b A N c toks g d ti td q X) (hs : X'.heap.size = X.heap.size) (hk : ∀ k, k ≠ g → X'.heap[k]? = X.heap[k]?) (hm : Mv b W X') {d' : RlD} {ti' td' : Tr} (hx : RX X' g d') (hi : Rep X (fun j => W.heap.size + 1 ≤ j ∧ j ≠ g) d'.if_ ti') (hd : Rep X (fun j => W.heap.size + 1 ≤ j ∧ j ≠ g) d'.due td') : RU W b A N c toks g d' ti' td' q X' :=
  ⟨h0.keepN h.sp (fun k hk' => hk k (by have := h.gl; omega)), hx, (hk _ (by have := h.gl; omega)).trans h.r2, hi.keep (Nat.le_of_eq hs.symm) (fun k h1 _ => hk k h1.2), hd.keep (Nat.le_of_eq hs.symm) (fun k h1 _ => hk k h1.2), hm, h.bl, h.gl⟩
theorem RU.set1 {β : Type} {o0 : Nat} {q0 : PR β} (h0 : SP W b A N c toks o0 q0) (h : RU W b A N c toks g d ti td q X) (v : Int) : RU W b A N c toks g { d with from_ := v } ti td q (X.setCell ⟨g, 1, none⟩ (.int .i64 v)) :=
  RU.st h0 h (by simp) (fun k hk => heap_setCell_other _ _ _ _ (by simpa using hk)) (h.mv.setNew (p := ⟨g, 1, none⟩) (Nat.le_of_succ_le h.gl) _) ((heap_setCell_same _ g 1 _ 50 _ h.rx).trans rfl) h.ri h.rd
theorem RU.set2 {β : Type} {o0 : Nat} {q0 : PR β} (h0 : SP W b A N c toks o0 q0) (h : RU W b A N c toks g d ti td q X) (v : ByteArray) : RU W b A N c toks g { d with on_ := v } ti td q (X.setCell ⟨g, 2, none⟩ (.string v)) :=
  RU.st h0 h (by simp) (fun k hk => heap_setCell_other _ _ _ _ (by simpa using hk)) (h.mv.setNew (p := ⟨g, 2, none⟩) (Nat.le_of_succ_le h.gl) _) ((heap_setCell_same _ g 2 _ 50 _ h.rx).trans rfl) h.ri h.rd
theorem RU.set11 {β : Type} {o0 : Nat} {q0 : PR β} (h0 : SP W b A N c toks o0 q0) (h : RU W b A N c toks g d ti td q X) (v : ByteArray) : RU W b A N c toks g { d with unless_ := v } ti td q (X.setCell ⟨g, 11, none⟩ (.string v)) :=
  RU.st h0 h (by simp) (fun k hk => heap_setCell_other _ _ _ _ (by simpa using hk)) (h.mv.setNew (p := ⟨g, 11, none⟩) (Nat.le_of_succ_le h.gl) _) ((heap_setCell_same _ g 11 _ 50 _ h.rx).trans rfl) h.ri h.rd
theorem RU.set12 {β : Type} {o0 : Nat} {q0 : PR β} (h0 : SP W b A N c toks o0 q0) (h : RU W b A N c toks g d ti td q X) (v : ByteArray) : RU W b A N c toks g { d with else_ := v } ti td q (X.setCell ⟨g, 12, none⟩ (.string v)) :=
  RU.st h0 h (by simp) (fun k hk => heap_setCell_other _ _ _ _ (by simpa using hk)) (h.mv.setNew (p := ⟨g, 12, none⟩) (Nat.le_of_succ_le h.gl) _) ((heap_setCell_same _ g 12 _ 50 _ h.rx).trans rfl) h.ri h.rd
theorem RU.setI {β : Type} {o0 : Nat} {q0 : PR β} (h0 : SP W b A N c toks o0 q0) (h : RU W b A N c toks g d ti td q X) (y : Nd) (t : Tr) (hy : Rep X (fun j => W.heap.size + 1 ≤ j ∧ j ≠ g) y t) : RU W b A N c toks g { d with if_ := y } t td q ((((X.setCell ⟨g, 3, none⟩ (.int .i64 y.k)).setCell ⟨g, 4, none⟩ (.int .i64 y.n)).setCell ⟨g, 5, none⟩ (.string y.s)).setCell ⟨g, 6, none⟩ (.slice y.A y.m y.c)) :=
  RU.st h0 h (by simp) (fun k hk => by rw [heap_setCell_other _ _ _ _ (by simpa using hk), heap_setCell_other _ _ _ _ (by simpa using hk), heap_setCell_other _ _ _ _ (by simpa using hk), heap_setCell_other _ _ _ _ (by simpa using hk)])
    ((((h.mv.setNew (p := ⟨g, 3, none⟩) (Nat.le_of_succ_le h.gl) _).setNew (p := ⟨g, 4, none⟩) (Nat.le_of_succ_le h.gl) _).setNew (p := ⟨g, 5, none⟩) (Nat.le_of_succ_le h.gl) _).setNew (p := ⟨g, 6, none⟩) (Nat.le_of_succ_le h.gl) _)
    ((heap_setCell_same _ g 6 _ 50 _ ((heap_setCell_same _ g 5 _ 50 _ ((heap_setCell_same _ g 4 _ 50 _ ((heap_setCell_same _ g 3 _ 50 _ h.rx).trans rfl)).trans rfl)).trans rfl)).trans rfl) hy h.rd
theorem RU.setD {β : Type} {o0 : Nat} {q0 : PR β} (h0 : SP W b A N c toks o0 q0) (h : RU W b A N c toks g d ti td q X) (y : Nd) (t : Tr) (hy : Rep X (fun j => W.heap.size + 1 ≤ j ∧ j ≠ g) y t) : RU W b A N c toks g { d with due := y } ti t q ((((X.setCell ⟨g, 7, none⟩ (.int .i64 y.k)).setCell ⟨g, 8, none⟩ (.int .i64 y.n)).setCell ⟨g, 9, none⟩ (.string y.s)).setCell ⟨g, 10, none⟩ (.slice y.A y.m y.c)) :=
  RU.st h0 h (by simp) (fun k hk => by rw [heap_setCell_other _ _ _ _ (by simpa using hk), heap_setCell_other _ _ _ _ (by simpa using hk), heap_setCell_other _ _ _ _ (by simpa using hk), heap_setCell_other _ _ _ _ (by simpa using hk)])
    ((((h.mv.setNew (p := ⟨g, 7, none⟩) (Nat.le_of_succ_le h.gl) _).setNew (p := ⟨g, 8, none⟩) (Nat.le_of_succ_le h.gl) _).setNew (p := ⟨g, 9, none⟩) (Nat.le_of_succ_le h.gl) _).setNew (p := ⟨g, 10, none⟩) (Nat.le_of_succ_le h.gl) _)
    ((heap_setCell_same _ g 10 _ 50 _ ((heap_setCell_same _ g 9 _ 50 _ ((heap_setCell_same _ g 8 _ 50 _ ((heap_setCell_same _ g 7 _ 50 _ h.rx).trans rfl)).trans rfl)).trans rfl)).trans rfl) h.ri hy
end
def RlPost (W : World) (b : Nat) (A : Option Addr) (N c : Nat) (toks : List Tk) (q2 : PR (α × Rl)) (e : Ending) (W' : World) : Prop :=
  ∃ (d : RlD) (v : Rl), e = .returned d.val ∧ RepR W' (fun k => W.heap.size ≤ k) d v ∧ SP W' b A N c toks 0 q2 ∧ Mv b W W' ∧ ∀ x v' r, q2 = .ok (x, v') r → v = v'
def ruB (q : PR α) : PR (α × Rl) := q.bind fun x r => (ruleP EX r).bind fun v r => .ok (x, v) r
/-- The state behind all parts. -/
def ruQ (q : PR α) : PR (((((((α × List UInt8) × Tk) × List UInt8) × Tr) × Tr) × List UInt8) × List UInt8) :=
  mustB wBraceE (ptB wElse [] nameP (ptB wUnless [] nameP (mustB wSemi (exB (exprP 40000) 1 0 (mustB wDue (ptB wIf trTrue EX (mustB wSemi (nameB (mustB wOn (mustB wBrace (tokB 3 (mustB wFrom (nameB (mustB wRule q))))))))))))))
theorem ruB_eq (q : PR α) : ruB q = (ruQ q).bind fun y r => .ok (y.1.1.1.1.1.1.1, ⟨y.1.1.1.1.1.1.2, y.1.1.1.1.1.2.nm, y.1.1.1.1.2, y.1.1.1.2, y.1.1.2, y.1.2, y.2⟩) r := by
  have hE : ∀ r, exprP 40000 1 0 r = EX r := fun _ => rfl
  simp only [ruB, ruleP, ruQ, ptB, exB, mustB, nameB, tokB, PR.bind_assoc, PR.bind_ok, hE]
theorem rexpr1_any {q : PR α} (h : SP W b A N c toks 0 q) (hN : toks.length ≤ 4001) : Calls Tryz.prog 41 #[.pointer (some ⟨b, 0, none⟩), .int .i64 1] W (NdPost W b A N c toks 0 (exB (exprP 40000) 1 0 q)) := by
  refine (rexpr_any 40000).2 α W b A N c toks 0 1 4001 q h (by decide) (by decide) ?_ (by decide)
  intro x r e
  subst e
  obtain ⟨_, a, rfl, hs⟩ := h
  simp only [List.length_drop]; omega
set_option maxHeartbeats 8000000 in
set_option maxRecDepth 100000 in
theorem rrule_any (h : SP W b A N c toks 0 q) (hN : toks.length ≤ 4001) : Calls Tryz.prog 37 #[.pointer (some ⟨b, 0, none⟩)] W (RlPost W b A N c toks (ruB q)) := by
  have HH := Lib.hid h
  have HBL := Lib.hid h.lt
  have hbl := h.lt
  have hfd := fieldNm
  obtain ⟨q1, hq1⟩ : ∃ z, z = mustB wRule q := ⟨_, rfl⟩
  obtain ⟨q2, hq2⟩ : ∃ z, z = nameB q1 := ⟨_, rfl⟩
  obtain ⟨q3, hq3⟩ : ∃ z, z = mustB wFrom q2 := ⟨_, rfl⟩
  obtain ⟨q4, hq4⟩ : ∃ z, z = tokB 3 q3 := ⟨_, rfl⟩
  obtain ⟨q5, hq5⟩ : ∃ z, z = mustB wBrace q4 := ⟨_, rfl⟩
  obtain ⟨q6, hq6⟩ : ∃ z, z = mustB wOn q5 := ⟨_, rfl⟩
  obtain ⟨q7, hq7⟩ : ∃ z, z = nameB q6 := ⟨_, rfl⟩
  obtain ⟨q8, hq8⟩ : ∃ z, z = mustB wSemi q7 := ⟨_, rfl⟩
  obtain ⟨q9, hq9⟩ : ∃ z, z = ptB wIf trTrue EX q8 := ⟨_, rfl⟩
  obtain ⟨qa, hqa⟩ : ∃ z, z = mustB wDue q9 := ⟨_, rfl⟩
  obtain ⟨qb, hqb⟩ : ∃ z, z = exB (exprP 40000) 1 0 qa := ⟨_, rfl⟩
  obtain ⟨qc, hqc⟩ : ∃ z, z = mustB wSemi qb := ⟨_, rfl⟩
  obtain ⟨qd, hqd⟩ : ∃ z, z = ptB wUnless [] nameP qc := ⟨_, rfl⟩
  obtain ⟨qe, hqe⟩ : ∃ z, z = ptB wElse [] nameP qd := ⟨_, rfl⟩
  obtain ⟨qf, hqf⟩ : ∃ z, z = mustB wBraceE qe := ⟨_, rfl⟩
  have HQ := Lib.hid (show ruB q = qf.bind fun y r => .ok (y.1.1.1.1.1.1.1, ⟨y.1.1.1.1.1.1.2, y.1.1.1.1.1.2.nm, y.1.1.1.1.2, y.1.1.1.2, y.1.1.2, y.1.2, y.2⟩) r from by rw [ruB_eq, ruQ, hqf, hqe, hqd, hqc, hqb, hqa, hq9, hq8, hq7, hq6, hq5, hq4, hq3, hq2, hq1])
  have HQ1 := Lib.hid hq1
  have HQ2 := Lib.hid hq2
  have HQ3 := Lib.hid hq3
  have HQ4 := Lib.hid hq4
  have HQ5 := Lib.hid hq5
  have HQ6 := Lib.hid hq6
  have HQ7 := Lib.hid hq7
  have HQ8 := Lib.hid hq8
  have HQ9 := Lib.hid hq9
  have HQA := Lib.hid hqa
  have HQB := Lib.hid hqb
  have HQC := Lib.hid hqc
  have HQD := Lib.hid hqd
  have HQE := Lib.hid hqe
  have HQF := Lib.hid hqf
  clear h hq1 hq2 hq3 hq4 hq5 hq6 hq7 hq8 hq9 hqa hqb hqc hqd hqe hqf
  go_enter Tryz.func37, Tryz.ntmps37
  go_upto_region 1 with (fail)
  have hx0 : Ext W (W.alloc (.cells #[.string ⟨#[]⟩, .int .i64 0, .string ⟨#[]⟩, .int .i64 0, .int .i64 0, .string ⟨#[]⟩, .slice none 0 0, .int .i64 0, .int .i64 0, .string ⟨#[]⟩, .slice none 0 0, .string ⟨#[]⟩, .string ⟨#[]⟩] 50)) := (Ext.refl _).alloc _
  have hz0 : W.heap.size + 1 ≤ (W.alloc (.cells #[.string ⟨#[]⟩, .int .i64 0, .string ⟨#[]⟩, .int .i64 0, .int .i64 0, .string ⟨#[]⟩, .slice none 0 0, .int .i64 0, .int .i64 0, .string ⟨#[]⟩, .slice none 0 0, .string ⟨#[]⟩, .string ⟨#[]⟩] 50)).heap.size := by simp
  have hr0 : RX (W.alloc (.cells #[.string ⟨#[]⟩, .int .i64 0, .string ⟨#[]⟩, .int .i64 0, .int .i64 0, .string ⟨#[]⟩, .slice none 0 0, .int .i64 0, .int .i64 0, .string ⟨#[]⟩, .slice none 0 0, .string ⟨#[]⟩, .string ⟨#[]⟩] 50)) W.heap.size rl0 := heap_alloc_new _ _
  generalize W.alloc (.cells #[.string ⟨#[]⟩, .int .i64 0, .string ⟨#[]⟩, .int .i64 0, .int .i64 0, .string ⟨#[]⟩, .slice none 0 0, .int .i64 0, .int .i64 0, .string ⟨#[]⟩, .slice none 0 0, .string ⟨#[]⟩, .string ⟨#[]⟩] 50) = w0 at *
  go_wp2_with fail
  refine (rmust_any (HH.out.ext hx0) wRule ⟨#[114, 117, 108, 101]⟩ rfl (by decide)).mono ?_
  rintro e w1 ⟨rfl, hp, hm⟩
  rw [← HQ1.out] at hp
  have HP1 := Lib.hid hp
  have HM1 := Lib.hid ((Mv.of_ext (b := b) hx0).trans hm)
  have HR1 := Lib.hid (hr0.mv hm (by omega))
  have hz1 := Nat.le_trans hz0 hm.size
  clear hp hm hr0 hz0 hx0
  go_wp2_with fail
  refine (rname_any HP1.out).mono ?_
  rintro e w2 ⟨nm, rfl, hp, hm, hv⟩
  rw [← HQ2.out] at hp hv
  have HV2 := Lib.hid hv
  obtain ⟨S1, hS1⟩ : ∃ S, S = bs nm := ⟨_, rfl⟩
  rw [← hS1]
  have HS1 := Lib.hid hS1
  have HP2 := Lib.hid hp
  have HM2 := Lib.hid (HM1.out.trans hm)
  have HR2 := Lib.hid (HR1.out.mv hm (by omega))
  have hz2 := Nat.le_trans hz1 hm.size
  clear hp hm hv hS1
  go_wp2_with fail
  refine (true_any _).mono ?_
  rintro e w3 ⟨rfl, hx3⟩
  have hz3 := Nat.le_trans hz2 hx3.lt
  have hm3 : Mv b w2 w3 := Mv.of_ext hx3
  go_upto_region 3 with (fail)
  have hx4 : Ext w3 (w3.alloc (.cells #[.string S1, .int .i64 0, .string ⟨#[]⟩, .int .i64 2, .int .i64 1, .string ⟨#[]⟩, .slice none 0 0, .int .i64 0, .int .i64 0, .string ⟨#[]⟩, .slice none 0 0, .string ⟨#[]⟩, .string ⟨#[]⟩] 50)) := (Ext.refl _).alloc _
  have hr4 : RX (w3.alloc (.cells #[.string S1, .int .i64 0, .string ⟨#[]⟩, .int .i64 2, .int .i64 1, .string ⟨#[]⟩, .slice none 0 0, .int .i64 0, .int .i64 0, .string ⟨#[]⟩, .slice none 0 0, .string ⟨#[]⟩, .string ⟨#[]⟩] 50)) w3.heap.size ⟨S1, 0, ⟨#[]⟩, ⟨2, 1, ⟨#[]⟩, none, 0, 0⟩, nd0, ⟨#[]⟩, ⟨#[]⟩⟩ := heap_alloc_new _ _
  generalize w3.alloc (.cells #[.string S1, .int .i64 0, .string ⟨#[]⟩, .int .i64 2, .int .i64 1, .string ⟨#[]⟩, .slice none 0 0, .int .i64 0, .int .i64 0, .string ⟨#[]⟩, .slice none 0 0, .string ⟨#[]⟩, .string ⟨#[]⟩] 50) = w4 at *
  have hm4 := hm3.trans (Mv.of_ext (b := b) hx4)
  have HU4 := Lib.hid (show RU W b A N c toks w3.heap.size ⟨S1, 0, ⟨#[]⟩, ⟨2, 1, ⟨#[]⟩, none, 0, 0⟩, nd0, ⟨#[]⟩, ⟨#[]⟩⟩ trTrue (.nd 0 0 [] []) q2 w4 from ⟨(HP2.out.ext hx3).ext hx4, hr4, HR2.out.mv hm4 (by omega), Rep.leaf _ _ 2 1 [], Rep.leaf _ _ 0 0 [], HM2.out.trans hm4, hbl, hz3⟩)
  generalize w3.heap.size = g at *
  clear hx3 hm3 hx4 hr4 hm4 HP2 HM2 HR2 HP1 HM1 HR1 hz1 hz2
  go_wp2_with fail
  refine (rmust_any HU4.out.sp wFrom ⟨#[102, 114, 111, 109]⟩ rfl (by decide)).mono ?_
  rintro e v5 ⟨rfl, hp, hm⟩
  rw [← HQ3.out] at hp
  have HU5 := Lib.hid (HU4.out.go hm hp)
  clear hp hm
  go_wp2_with fail
  refine (rtoken_any HU5.out.sp 3 (by decide)).mono ?_
  rintro e u1 ⟨t, rfl, hp, hm, hv⟩
  rw [← HQ4.out] at hp hv
  have HV4 := Lib.hid hv
  have HU6 := Lib.hid (HU5.out.go hm hp)
  clear hp hm hv
  obtain ⟨z, hz⟩ : ∃ z, z = t.nm := ⟨_, rfl⟩
  rw [← hz]
  have HZ := Lib.hid hz
  clear hz
  obtain ⟨y0, y1, y2, y3, y4, y5, y6, y7, y8, y9, y10, y11, y12⟩ := HU6.out.rx.cs
  obtain ⟨z0, z1, z2, z3, z4, z5, z6, z7, z8, z9, z10, z11, z12⟩ := HU6.out.rx.zs
  go_upto_region 5 with (fail)
  have HU7 := Lib.hid (HU6.out.set1 HH.out z)
  generalize u1.setCell ⟨g, 1, none⟩ (.int .i64 z) = u2 at *
  clear y0 y1 y2 y3 y4 y5 y6 y7 y8 y9 y10 y11 y12 z0 z1 z2 z3 z4 z5 z6 z7 z8 z9 z10 z11 z12
  go_wp2_with fail
  refine (rmust_any HU7.out.sp wBrace ⟨#[123]⟩ rfl (by decide)).mono ?_
  rintro e v8 ⟨rfl, hp, hm⟩
  rw [← HQ5.out] at hp
  have HU8 := Lib.hid (HU7.out.go hm hp)
  clear hp hm
  go_wp2_with fail
  refine (rmust_any HU8.out.sp wOn ⟨#[111, 110]⟩ rfl (by decide)).mono ?_
  rintro e v9 ⟨rfl, hp, hm⟩
  rw [← HQ6.out] at hp
  have HU9 := Lib.hid (HU8.out.go hm hp)
  clear hp hm
  go_wp2_with fail
  refine (rname_any HU9.out.sp).mono ?_
  rintro e u3 ⟨on, rfl, hp, hm, hv⟩
  rw [← HQ7.out] at hp hv
  have HV7 := Lib.hid hv
  have HU10 := Lib.hid (HU9.out.go hm hp)
  clear hp hm hv
  obtain ⟨S2, hS2⟩ : ∃ S, S = bs on := ⟨_, rfl⟩
  rw [← hS2]
  have HS2 := Lib.hid hS2
  clear hS2
  obtain ⟨y0, y1, y2, y3, y4, y5, y6, y7, y8, y9, y10, y11, y12⟩ := HU10.out.rx.cs
  obtain ⟨z0, z1, z2, z3, z4, z5, z6, z7, z8, z9, z10, z11, z12⟩ := HU10.out.rx.zs
  go_upto_region 8 with (fail)
  have HU11 := Lib.hid (HU10.out.set2 HH.out S2)
  generalize u3.setCell ⟨g, 2, none⟩ (.string S2) = u4 at *
  clear y0 y1 y2 y3 y4 y5 y6 y7 y8 y9 y10 y11 y12 z0 z1 z2 z3 z4 z5 z6 z7 z8 z9 z10 z11 z12
  go_wp2_with fail
  refine (rmust_any HU11.out.sp wSemi ⟨#[59]⟩ rfl (by decide)).mono ?_
  rintro e v12 ⟨rfl, hp, hm⟩
  rw [← HQ8.out] at hp
  have HU12 := Lib.hid (HU11.out.go hm hp)
  clear hp hm
  go_upto_if 26 with (first | (go_at_call 85; refine (rtake_any HU12.out.sp wIf ⟨#[105, 102]⟩ rfl (by decide)).mono ?_; rintro e t12 ⟨he, hp, hm⟩; subst he; have HT := Lib.hid (HU12.out.go hm hp); clear hp hm))
  obtain ⟨v9, hv9⟩ : ∃ v, v = isP wIf q8 := ⟨_, rfl⟩
  rw [← hv9]
  have HV9 := Lib.hid hv9
  clear hv9
  go_cut [27] (fun _ wx => ∃ di ti, RU W b A N c toks g ⟨S1, z, S2, di, nd0, ⟨#[]⟩, ⟨#[]⟩⟩ ti (.nd 0 0 [] []) q9 wx ∧ ∀ x t r, q9 = .ok (x, t) r → ti = t)
  case first =>
    cases v9
    case false =>
      have HN := Lib.hid (show q9 = q8.bind fun x r => .ok (x, trTrue) r by rw [HQ9.out, ptB_no HV9.out.symm])
      have HT2 := Lib.hid (show takeP wIf q8 = q8 from take_no HV9.out.symm)
      go_wp2_with fail
      go_meet
      case rel => exact ⟨_, trTrue, HT.out.go (Mv.refl _ _) (by rw [HN.out]; have h9 := HT.out.sp; rw [HT2.out] at h9; exact h9.map _), fun x t r he => by rw [HN.out] at he; obtain ⟨y, r1, _, h2⟩ := PR.bind_inv he; obtain ⟨h3, _⟩ := PR.ok_inj h2; injection h3⟩
    case true =>
      have HN := Lib.hid (show q9 = mustB wSemi (exB (exprP 40000) 1 0 (takeP wIf q8)) by rw [HQ9.out, ptB_yes HV9.out.symm]; rfl)
      go_wp2_with fail
      refine (rexpr1_any HT.out.sp hN).mono ?_
      rintro e u5 ⟨di, ti, rfl, hr, hp, hm, hv⟩
      have HV := Lib.hid hv
      have HUa := Lib.hid (HT.out.go hm hp)
      have HRI := Lib.hid (hr.mono (Q := fun j => W.heap.size + 1 ≤ j ∧ j ≠ g) (fun j h1 _ => ⟨by have := HT.out.mv.size; have := lt_of_block HT.out.rx; have := HT.out.gl; omega, by have := lt_of_block HT.out.rx; omega⟩))
      clear hp hm hv hr
      obtain ⟨y0, y1, y2, y3, y4, y5, y6, y7, y8, y9, y10, y11, y12⟩ := HUa.out.rx.cs
      obtain ⟨z0, z1, z2, z3, z4, z5, z6, z7, z8, z9, z10, z11, z12⟩ := HUa.out.rx.zs
      go_upto_region 11 with (fail)
      have HUb := Lib.hid (HUa.out.setI HH.out di ti HRI.out)
      generalize (((u5.setCell ⟨g, 3, none⟩ (.int .i64 di.k)).setCell ⟨g, 4, none⟩ (.int .i64 di.n)).setCell ⟨g, 5, none⟩ (.string di.s)).setCell ⟨g, 6, none⟩ (.slice di.A di.m di.c) = u6 at *
      clear y0 y1 y2 y3 y4 y5 y6 y7 y8 y9 y10 y11 y12 z0 z1 z2 z3 z4 z5 z6 z7 z8 z9 z10 z11 z12
      go_wp2_with fail
      refine (rmust_any HUb.out.sp wSemi ⟨#[59]⟩ rfl (by decide)).mono ?_
      rintro e u7 ⟨rfl, hp, hm⟩
      rw [← HN.out] at hp
      have HUc := Lib.hid (HUb.out.go hm hp)
      clear hp hm
      go_wp2_with fail
      go_meet
      case rel => exact ⟨di, ti, HUc.out, fun x t r he => by rw [HN.out] at he; obtain ⟨r1, h1⟩ := mustB_inv he; exact HV.out x t r1 h1⟩
  case rest =>
  obtain ⟨di, ti, hu, hv⟩ := hcut
  have HU13 := Lib.hid hu
  have HV9b := Lib.hid hv
  clear hu hv HT HV9
  go_wp2_with fail
  refine (rmust_any HU13.out.sp wDue ⟨#[100, 117, 101]⟩ rfl (by decide)).mono ?_
  rintro e v14 ⟨rfl, hp, hm⟩
  rw [← HQA.out] at hp
  have HU14 := Lib.hid (HU13.out.go hm hp)
  clear hp hm
  go_wp2_with fail
  refine (rexpr1_any HU14.out.sp hN).mono ?_
  rintro e u8 ⟨dd, td, rfl, hr, hp, hm, hv⟩
  rw [← HQB.out] at hp hv
  have HVB := Lib.hid hv
  have HRD := Lib.hid (hr.mono (Q := fun j => W.heap.size + 1 ≤ j ∧ j ≠ g) (fun j h1 _ => ⟨by have := lt_of_block HU14.out.rx; have := HU14.out.gl; omega, by have := lt_of_block HU14.out.rx; omega⟩))
  have HU15 := Lib.hid (HU14.out.go hm hp)
  clear hp hm hv hr
  obtain ⟨y0, y1, y2, y3, y4, y5, y6, y7, y8, y9, y10, y11, y12⟩ := HU15.out.rx.cs
  obtain ⟨z0, z1, z2, z3, z4, z5, z6, z7, z8, z9, z10, z11, z12⟩ := HU15.out.rx.zs
  go_upto_region 14 with (fail)
  have HU16 := Lib.hid (HU15.out.setD HH.out dd td HRD.out)
  generalize (((u8.setCell ⟨g, 7, none⟩ (.int .i64 dd.k)).setCell ⟨g, 8, none⟩ (.int .i64 dd.n)).setCell ⟨g, 9, none⟩ (.string dd.s)).setCell ⟨g, 10, none⟩ (.slice dd.A dd.m dd.c) = u9 at *
  clear y0 y1 y2 y3 y4 y5 y6 y7 y8 y9 y10 y11 y12 z0 z1 z2 z3 z4 z5 z6 z7 z8 z9 z10 z11 z12
  go_wp2_with fail
  refine (rmust_any HU16.out.sp wSemi ⟨#[59]⟩ rfl (by decide)).mono ?_
  rintro e v17 ⟨rfl, hp, hm⟩
  rw [← HQC.out] at hp
  have HU17 := Lib.hid (HU16.out.go hm hp)
  clear hp hm
  go_upto_if 40 with (first | (go_at_call 85; refine (rtake_any HU17.out.sp wUnless ⟨#[117, 110, 108, 101, 115, 115]⟩ rfl (by decide)).mono ?_; rintro e t17 ⟨he, hp, hm⟩; subst he; have HT := Lib.hid (HU17.out.go hm hp); clear hp hm))
  obtain ⟨v9, hv9⟩ : ∃ v, v = isP wUnless qc := ⟨_, rfl⟩
  rw [← hv9]
  have HV9 := Lib.hid hv9
  clear hv9
  go_cut [41] (fun _ wx => ∃ S3 un, S3 = bs un ∧ RU W b A N c toks g ⟨S1, z, S2, di, dd, S3, ⟨#[]⟩⟩ ti td qd wx ∧ ∀ x t r, qd = .ok (x, t) r → un = t)
  case first =>
    cases v9
    case false =>
      have HN := Lib.hid (show qd = qc.bind fun x r => .ok (x, []) r by rw [HQD.out, ptB_no HV9.out.symm])
      have HT2 := Lib.hid (show takeP wUnless qc = qc from take_no HV9.out.symm)
      go_wp2_with fail
      go_meet
      case rel => exact ⟨⟨#[]⟩, [], rfl, HT.out.go (Mv.refl _ _) (by rw [HN.out]; have h9 := HT.out.sp; rw [HT2.out] at h9; exact h9.map _), fun x t r he => by rw [HN.out] at he; obtain ⟨y, r1, _, h2⟩ := PR.bind_inv he; obtain ⟨h3, _⟩ := PR.ok_inj h2; injection h3⟩
    case true =>
      have HN := Lib.hid (show qd = mustB wSemi (nameB (takeP wUnless qc)) by rw [HQD.out, ptB_yes HV9.out.symm]; rfl)
      go_wp2_with fail
      refine (rname_any HT.out.sp).mono ?_
      rintro e u5 ⟨un, rfl, hp, hm, hv⟩
      have HV := Lib.hid hv
      have HUa := Lib.hid (HT.out.go hm hp)
      clear hp hm hv
      obtain ⟨S3, hS3⟩ : ∃ S, S = bs un := ⟨_, rfl⟩
      rw [← hS3]
      have HS3 := Lib.hid hS3
      clear hS3
      obtain ⟨y0, y1, y2, y3, y4, y5, y6, y7, y8, y9, y10, y11, y12⟩ := HUa.out.rx.cs
      obtain ⟨z0, z1, z2, z3, z4, z5, z6, z7, z8, z9, z10, z11, z12⟩ := HUa.out.rx.zs
      go_upto_region 17 with (fail)
      have HUb := Lib.hid (HUa.out.set11 HH.out S3)
      generalize u5.setCell ⟨g, 11, none⟩ (.string S3) = u6 at *
      clear y0 y1 y2 y3 y4 y5 y6 y7 y8 y9 y10 y11 y12 z0 z1 z2 z3 z4 z5 z6 z7 z8 z9 z10 z11 z12
      go_wp2_with fail
      refine (rmust_any HUb.out.sp wSemi ⟨#[59]⟩ rfl (by decide)).mono ?_
      rintro e u7 ⟨rfl, hp, hm⟩
      rw [← HN.out] at hp
      have HUc := Lib.hid (HUb.out.go hm hp)
      clear hp hm
      go_wp2_with fail
      go_meet
      case rel => exact ⟨S3, un, HS3.out, HUc.out, fun x t r he => by rw [HN.out] at he; obtain ⟨r1, h1⟩ := mustB_inv he; exact HV.out x t r1 h1⟩
  case rest =>
  obtain ⟨S3, un, hs9, hu, hv⟩ := hcut
  have HS3 := Lib.hid hs9
  have HU18 := Lib.hid hu
  have HVD := Lib.hid hv
  clear hs9 hu hv HT HV9
  go_upto_if 47 with (first | (go_at_call 85; refine (rtake_any HU18.out.sp wElse ⟨#[101, 108, 115, 101]⟩ rfl (by decide)).mono ?_; rintro e t18 ⟨he, hp, hm⟩; subst he; have HT := Lib.hid (HU18.out.go hm hp); clear hp hm))
  obtain ⟨v9, hv9⟩ : ∃ v, v = isP wElse qd := ⟨_, rfl⟩
  rw [← hv9]
  have HV9 := Lib.hid hv9
  clear hv9
  go_cut [48] (fun _ wx => ∃ S4 el, S4 = bs el ∧ RU W b A N c toks g ⟨S1, z, S2, di, dd, S3, S4⟩ ti td qe wx ∧ ∀ x t r, qe = .ok (x, t) r → el = t)
  case first =>
    cases v9
    case false =>
      have HN := Lib.hid (show qe = qd.bind fun x r => .ok (x, []) r by rw [HQE.out, ptB_no HV9.out.symm])
      have HT2 := Lib.hid (show takeP wElse qd = qd from take_no HV9.out.symm)
      go_wp2_with fail
      go_meet
      case rel => exact ⟨⟨#[]⟩, [], rfl, HT.out.go (Mv.refl _ _) (by rw [HN.out]; have h9 := HT.out.sp; rw [HT2.out] at h9; exact h9.map _), fun x t r he => by rw [HN.out] at he; obtain ⟨y, r1, _, h2⟩ := PR.bind_inv he; obtain ⟨h3, _⟩ := PR.ok_inj h2; injection h3⟩
    case true =>
      have HN := Lib.hid (show qe = mustB wSemi (nameB (takeP wElse qd)) by rw [HQE.out, ptB_yes HV9.out.symm]; rfl)
      go_wp2_with fail
      refine (rname_any HT.out.sp).mono ?_
      rintro e u5 ⟨el, rfl, hp, hm, hv⟩
      have HV := Lib.hid hv
      have HUa := Lib.hid (HT.out.go hm hp)
      clear hp hm hv
      obtain ⟨S4, hS4⟩ : ∃ S, S = bs el := ⟨_, rfl⟩
      rw [← hS4]
      have HS4 := Lib.hid hS4
      clear hS4
      obtain ⟨y0, y1, y2, y3, y4, y5, y6, y7, y8, y9, y10, y11, y12⟩ := HUa.out.rx.cs
      obtain ⟨z0, z1, z2, z3, z4, z5, z6, z7, z8, z9, z10, z11, z12⟩ := HUa.out.rx.zs
      go_upto_region 20 with (fail)
      have HUb := Lib.hid (HUa.out.set12 HH.out S4)
      generalize u5.setCell ⟨g, 12, none⟩ (.string S4) = u6 at *
      clear y0 y1 y2 y3 y4 y5 y6 y7 y8 y9 y10 y11 y12 z0 z1 z2 z3 z4 z5 z6 z7 z8 z9 z10 z11 z12
      go_wp2_with fail
      refine (rmust_any HUb.out.sp wSemi ⟨#[59]⟩ rfl (by decide)).mono ?_
      rintro e u7 ⟨rfl, hp, hm⟩
      rw [← HN.out] at hp
      have HUc := Lib.hid (HUb.out.go hm hp)
      clear hp hm
      go_wp2_with fail
      go_meet
      case rel => exact ⟨S4, el, HS4.out, HUc.out, fun x t r he => by rw [HN.out] at he; obtain ⟨r1, h1⟩ := mustB_inv he; exact HV.out x t r1 h1⟩
  case rest =>
  obtain ⟨S4, el, hs9, hu, hv⟩ := hcut
  have HS4 := Lib.hid hs9
  have HU19 := Lib.hid hu
  have HVE := Lib.hid hv
  clear hs9 hu hv HT HV9
  go_wp2_with fail
  refine (rmust_any HU19.out.sp wBraceE ⟨#[125]⟩ rfl (by decide)).mono ?_
  rintro e v20 ⟨rfl, hp, hm⟩
  rw [← HQF.out] at hp
  have HU20 := Lib.hid (HU19.out.go hm hp)
  clear hp hm
  obtain ⟨y0, y1, y2, y3, y4, y5, y6, y7, y8, y9, y10, y11, y12⟩ := HU20.out.rx.cs
  obtain ⟨z0, z1, z2, z3, z4, z5, z6, z7, z8, z9, z10, z11, z12⟩ := HU20.out.rx.zs
  obtain ⟨r0, r1, r2, r3, r4, r5, r6, r7, r8, r9, r10, r11, r12⟩ := HU20.out.r2.cs
  obtain ⟨f0, f1, f2, f3, f4, f5, f6, f7, f8, f9, f10, f11, f12⟩ := HU20.out.r2.zs
  simp only [rl0, nd0] at r0 r1 r2 r3 r4 r5 r6 r7 r8 r9 r10 r11 r12
  have hgl := HU20.out.gl
  have l0 := lt_of_block HU20.out.rx
  have l1 := lt_of_block HU20.out.r2
  go_wp2
  refine bodyPost_ret (v := .agg #[.string S1, .int .i64 z, .string S2, .int .i64 di.k, .int .i64 di.n, .string di.s, .slice di.A di.m di.c, .int .i64 dd.k, .int .i64 dd.n, .string dd.s, .slice dd.A dd.m dd.c, .string S3, .string S4]) (by simp [results, Tryz.results37, go_sem, *]) rfl ?_
  have hmv : Mv b W (fin13 v20 W.heap.size ⟨S1, z, S2, di, dd, S3, S4⟩) := HU20.out.mv.fin13 _
  have hri : Rep (fin13 v20 W.heap.size ⟨S1, z, S2, di, dd, S3, S4⟩) (fun j => W.heap.size ≤ j) di ti := (HU20.out.ri.keep (W' := fin13 v20 W.heap.size ⟨S1, z, S2, di, dd, S3, S4⟩) (Nat.le_of_eq (fin13_size _ _ _).symm) (fun j h1 _ => fin13_other _ _ _ _ (by omega))).mono (fun j h1 _ => by omega)
  have hrd : Rep (fin13 v20 W.heap.size ⟨S1, z, S2, di, dd, S3, S4⟩) (fun j => W.heap.size ≤ j) dd td := (HU20.out.rd.keep (W' := fin13 v20 W.heap.size ⟨S1, z, S2, di, dd, S3, S4⟩) (Nat.le_of_eq (fin13_size _ _ _).symm) (fun j h1 _ => fin13_other _ _ _ _ (by omega))).mono (fun j h1 _ => by omega)
  have hsp : SP (fin13 v20 W.heap.size ⟨S1, z, S2, di, dd, S3, S4⟩) b A N c toks 0 (ruB q) := by rw [HQ.out]; exact HH.out.keepN (HU20.out.sp.map _) (fun j hj => fin13_other _ _ _ _ (by omega))
  refine ⟨⟨S1, z, S2, di, dd, S3, S4⟩, ⟨nm, t.nm, on, ti, td, un, el⟩, rfl, ?_, ?_, hmv, ?_⟩
  · exact ⟨HS1.out, HZ.out, HS2.out, hri, hrd, HS3.out, HS4.out⟩
  · exact hsp
  · intro x v' r he
    rw [HQ.out] at he
    obtain ⟨y, r9, h1, h2⟩ := PR.bind_inv he
    obtain ⟨h3, _⟩ := PR.ok_inj h2
    injection h3 with _ h4
    rw [HQF.out] at h1
    obtain ⟨ra, ha⟩ := mustB_inv h1
    have e1 := HVE.out y.1 y.2 ra ha
    rw [HQE.out] at ha
    obtain ⟨rb, hb⟩ := ptB_inv (x := y.1) (t := y.2) ha
    have e2 := HVD.out y.1.1 y.1.2 rb hb
    rw [HQD.out] at hb
    obtain ⟨rc, hc⟩ := ptB_inv (x := y.1.1) (t := y.1.2) hb
    rw [HQC.out] at hc
    obtain ⟨rd, hd⟩ := mustB_inv hc
    have e3 := HVB.out y.1.1.1 y.1.1.2 rd hd
    rw [HQB.out] at hd
    obtain ⟨re, hee⟩ := exB_inv (x := y.1.1.1) (t := y.1.1.2) hd
    rw [HQA.out] at hee
    obtain ⟨rf, hf⟩ := mustB_inv hee
    have e4 := HV9b.out y.1.1.1.1 y.1.1.1.2 rf hf
    rw [HQ9.out] at hf
    obtain ⟨rg, hg⟩ := ptB_inv (x := y.1.1.1.1) (t := y.1.1.1.2) hf
    rw [HQ8.out] at hg
    obtain ⟨rh, hh⟩ := mustB_inv hg
    have e5 := HV7.out y.1.1.1.1.1 y.1.1.1.1.2 rh hh
    rw [HQ7.out] at hh
    obtain ⟨ri, hi⟩ := rdB_inv (x := y.1.1.1.1.1) (t := y.1.1.1.1.2) hh
    rw [HQ6.out] at hi
    obtain ⟨rj, hj⟩ := mustB_inv hi
    rw [HQ5.out] at hj
    obtain ⟨rk, hk⟩ := mustB_inv hj
    have e6 := HV4.out y.1.1.1.1.1.1 y.1.1.1.1.1.2 rk hk
    rw [HQ4.out] at hk
    obtain ⟨rl, hl⟩ := rdB_inv (x := y.1.1.1.1.1.1) (t := y.1.1.1.1.1.2) hk
    rw [HQ3.out] at hl
    obtain ⟨rm, hm⟩ := mustB_inv hl
    have e7 := HV2.out y.1.1.1.1.1.1.1 y.1.1.1.1.1.1.2 rm hm
    rw [← h4, e1, e2, e3, e4, e5, e6, e7]
end
end Go.Proofs.YtnpenepdechkjaaGreatDoor
