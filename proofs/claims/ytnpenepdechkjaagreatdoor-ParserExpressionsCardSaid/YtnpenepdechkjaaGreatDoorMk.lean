/- The reference's expr. -/
import Derived.Test.YtnpenepdechkjaaGreatDoorYi
import Derived.Test.YtnpenepdechkjaaGreatDoorKj
namespace Go.Proofs.YtnpenepdechkjaaGreatDoor
open Go Go.RowKit

theorem isEmpty_ne2 {l : List UInt8} (h : l ≠ []) : l.isEmpty = false := by cases l with
  | nil => exact absurd rfl h
  | cons a l => rfl
theorem lvOf_vals (s : List UInt8) : lvOf s ≠ 3 ∧ lvOf s ≠ 7 := by
  unfold lvOf
  split; · decide
  split; · decide
  split; · decide
  split; · decide
  split <;> decide
theorem loop_skip {E : Nat → Nat → List Tk → PR Tr} {lv o : Nat} (hl : lv = 3 ∨ lv = 7) (g : Nat) (n : Tr) (r : List Tk) : loopP E lv o g n r = .ok n r := by
  cases g with
  | zero => rfl
  | succ g =>
    rw [loopP, if_neg]
    have := lvOf_vals (hd r).tx
    rcases hl with rfl | rfl
    · exact this.1
    · exact this.2
section
variable {α : Type} {W W' X : World} {b : Nat} {A : Option Addr} {N c : Nat} {toks : List Tk} {o : Nat} {q : PR α}
theorem SP.meas {x : α} {r : List Tk} (h : SP W b A N c toks o (.ok x r)) : atM N b W = r.length := by
  obtain ⟨_, a, rfl, hs⟩ := h
  unfold atM
  rw [hs.c1]
  simp [hs.len]
set_option maxRecDepth 100000 in
theorem rexpr_bad {β : Type} {r : List Tk} {e : Int} (h : SP W b A N c toks o (.bad r e : PR α)) (lv : Nat) : Calls Tryz.prog 41 #[.pointer (some ⟨b, 0, none⟩), .int .i64 (lv : Nat)] W (NdPost W b A N c toks o (.bad r e : PR (β × Tr))) := by
  have HH := Lib.hid h
  obtain ⟨ho, he, a, rfl, hs⟩ := h
  have HX := Lib.hid ((Ext.refl W).alloc (.cells #[.int .i64 0, .int .i64 0, .string ⟨#[]⟩, .slice none 0 0] 31))
  have HS := Lib.hid hs
  have hbl := hs.lt
  have t0 : (e != 0) = true := by rw [bne_iff_ne]; exact he
  clear hs he
  go_enter Tryz.func41, Tryz.ntmps41
  go_upto_region 1 with (fail)
  have q4 := NX.new W 0 0 ⟨#[]⟩ (.slice none 0 0)
  generalize W.alloc (.cells #[.int .i64 0, .int .i64 0, .string ⟨#[]⟩, .slice none 0 0] 31) = w1 at *
  have c3 := (HS.out.ext HX.out).c3
  have hbl1 := (HS.out.ext HX.out).lt
  obtain ⟨l4, x1, x2, x3, x4, x5, x6, x7, x8⟩ := q4.nb
  clear q4
  go_wp2
  refine bodyPost_ret (v := .agg #[.int .i64 0, .int .i64 0, .string ⟨#[]⟩, .slice none 0 0]) (by simp [results, Tryz.results41, go_sem, *]) rfl ?_
  exact NdPost.fin HH.out ⟨0, 0, ⟨#[]⟩, none, 0, 0⟩ (.nd 0 0 [] []) (Rep.leaf _ _ 0 0 []) (HH.out.ext HX.out) (Mv.of_ext HX.out) (fun x t' r he => by cases he)
/-- What the loop of expr has still to compute. -/
def LoS (E : Nat → Nat → List Tk → PR Tr) (lv n : Nat) (o : Nat) (RES : PR (α × Tr)) (t : Tr) (op : List UInt8) (σ : PR α) : Prop :=
  (op = [] ∧ (σ.bind fun x r => .ok (x, t) r) = RES) ∨
  (op ≠ [] ∧ ∃ (x : α) (r : List Tk) (gf : Nat), σ = .ok x r.tail ∧ (hd r).tx = op ∧ lvOf op = lv ∧ r.length ≤ gf + 1 ∧ r.length ≤ n ∧
    ((E (lv + 1) o r.tail).bind fun b r2 => if lv = 4 then .ok (x, (joinP lv op t b r2).1) (joinP lv op t b r2).2 else (loopP E lv o gf (joinP lv op t b r2).1 (joinP lv op t b r2).2).bind fun t r => .ok (x, t) r) = RES)
theorem LoS.start {E : Nat → Nat → List Tk → PR Tr} {lv n : Nat} (hlv : 1 ≤ lv) {RES : PR (α × Tr)} {t : Tr} {qc : PR α} (gf : Nat) (hg : LL gf qc) (hn : LL n qc) (h : (qc.bind fun x r => (loopP E lv o gf t r).bind fun t r => .ok (x, t) r) = RES) : LoS E lv n o RES t (opV lv qc) (opS lv qc) := by
  subst h
  cases qc with
  | bad r e => exact .inl ⟨rfl, rfl⟩
  | ok x r =>
    have h1 := hg x r rfl
    have h2 := hn x r rfl
    by_cases hl : lvOf (hd r).tx = lv
    · have hne : (hd r).tx ≠ [] := fun e => by rw [e, lvOf_nil] at hl; omega
      have hr : r ≠ [] := fun e => by rw [e] at hne; exact hne rfl
      have hrl : 1 ≤ r.length := List.length_pos_iff.2 hr
      obtain ⟨g, rfl⟩ : ∃ g, gf = g + 1 := ⟨gf - 1, by omega⟩
      refine .inr ⟨by simp only [opV, if_pos hl]; exact hne, x, r, g, by simp only [opS, if_pos hl], by simp only [opV, if_pos hl], by simp only [opV, if_pos hl]; exact hl, by omega, h2, ?_⟩
      simp only [opV, if_pos hl]
      rw [PR.bind_ok, loopP, if_pos hl, PR.bind_assoc]
      congr 1
      funext b r2
      split <;> rfl
    · refine .inl ⟨by simp only [opV, if_neg hl], ?_⟩
      simp only [opS, if_neg hl, PR.bind_ok]
      cases gf with
      | zero => rfl
      | succ g => rw [loopP, if_neg hl]; rfl
def LoRel (W : World) (b : Nat) (A : Option Addr) (N c : Nat) (toks : List Tk) (o : Nat) (E : Nat → Nat → List Tk → PR Tr) (lv n : Nat) (RES : PR (α × Tr)) (g4 g5 : Nat) (s6 : Value) (X : World) : Prop :=
  ∃ (d : Nd) (t : Tr) (op : List UInt8) (S : ByteArray) (σ : PR α), s6 = .string S ∧ S = bs op ∧ NX X g5 d.k d.n d.s (.slice d.A d.m d.c) ∧ Rep X (fun j => W.heap.size + 1 ≤ j ∧ j ≠ g5) d t ∧ SP X b A N c toks o σ ∧ NX X g4 0 0 ⟨#[]⟩ (.slice none 0 0) ∧ LoS E lv n o RES t op σ ∧ Mv b W X
def loM (N b : Nat) (s6 : Value) (X : World) : Nat := match s6 with
  | .string S => if S.toList = [] then 0 else 1 + atM N b X
  | _ => 0
theorem exB_ok {E : Nat → Nat → List Tk → PR Tr} {lv o : Nat} {x x' : α} {r r' : List Tk} {t : Tr} (h : exB E lv o (.ok x r) = .ok (x', t) r') : x' = x ∧ E lv o r = .ok t r' := by
  rw [exB, PR.bind_ok] at h
  obtain ⟨t1, r1, h1, h2⟩ := PR.bind_inv h
  obtain ⟨h3, rfl⟩ := PR.ok_inj h2
  injection h3 with h4 h5
  exact ⟨h4.symm, by rw [h1, h5]⟩
/-- What is left behind a round of the loop. -/
theorem LoS.next4 {E : Nat → Nat → List Tk → PR Tr} {n : Nat} {RES : PR (α × Tr)} {t tb t' : Tr} {op : List UInt8} {x : α} {r : List Tk}
    (h : ((E 5 o r.tail).bind fun b r2 => PR.ok (x, (joinP 4 op t b r2).1) (joinP 4 op t b r2).2) = RES)
    (hv1 : ∀ y t1 r1, exB E 5 o (.ok x r.tail) = .ok (y, t1) r1 → tb = t1) (hv2 : ∀ y t1 r1, jnB 4 op t tb (exB E 5 o (.ok x r.tail)) = .ok (y, t1) r1 → t' = t1) :
    LoS E 4 n o RES t' [] ((jnB 4 op t tb (exB E 5 o (.ok x r.tail))).bind fun y r => .ok y.1.1 r) := by
  refine .inl ⟨rfl, ?_⟩
  rw [← h]
  cases hx : E 5 o r.tail with
  | bad r1 e => simp only [exB, jnB, hx, PR.bind_ok, PR.bind_bad]
  | ok b r1 =>
    have e1 : exB E 5 o (.ok x r.tail) = .ok (x, b) r1 := by rw [exB, PR.bind_ok, hx]; rfl
    have e2 := hv1 x b r1 e1
    rw [e1] at hv2 ⊢
    have e3 := hv2 (x, b) (joinP 4 op t tb r1).1 (joinP 4 op t tb r1).2 rfl
    simp only [jnB, PR.bind_ok]
    rw [e3, e2]
theorem joinP_len (lv : Nat) (op : List UInt8) (a b : Tr) (r : List Tk) : (joinP lv op a b r).2.length ≤ r.length := (join_sz lv op a b r).2
theorem LoS.next {E : Nat → Nat → List Tk → PR Tr} {lv n gf : Nat} (hlv : 1 ≤ lv) (h4 : lv ≠ 4) (hE : ∀ lv o r t r', 1 ≤ lv → E lv o r = .ok t r' → r'.length ≤ r.length) {RES : PR (α × Tr)} {t tb t' : Tr} {op : List UInt8} {x : α} {r : List Tk} (hr : r.length ≤ gf + 1) (hn : r.length ≤ n)
    (h : ((E (lv + 1) o r.tail).bind fun b r2 => if lv = 4 then PR.ok (x, (joinP lv op t b r2).1) (joinP lv op t b r2).2 else (loopP E lv o gf (joinP lv op t b r2).1 (joinP lv op t b r2).2).bind fun t r => .ok (x, t) r) = RES)
    (hv1 : ∀ y t1 r1, exB E (lv + 1) o (.ok x r.tail) = .ok (y, t1) r1 → tb = t1) (hv2 : ∀ y t1 r1, jnB lv op t tb (exB E (lv + 1) o (.ok x r.tail)) = .ok (y, t1) r1 → t' = t1) :
    LoS E lv n o RES t' (opV lv ((jnB lv op t tb (exB E (lv + 1) o (.ok x r.tail))).bind fun y r => .ok y.1.1 r)) (opS lv ((jnB lv op t tb (exB E (lv + 1) o (.ok x r.tail))).bind fun y r => .ok y.1.1 r)) ∧
    LL (r.tail).length ((jnB lv op t tb (exB E (lv + 1) o (.ok x r.tail))).bind fun y r => .ok y.1.1 r) := by
  have hLL : LL (r.tail).length ((jnB lv op t tb (exB E (lv + 1) o (.ok x r.tail))).bind fun y r => .ok y.1.1 r) := by
    intro z r9 e
    obtain ⟨y, r8, h1, h2⟩ := PR.bind_inv e
    obtain ⟨_, rfl⟩ := PR.ok_inj h2
    obtain ⟨w, r7, h3, h5⟩ := PR.bind_inv h1
    obtain ⟨_, rfl⟩ := PR.ok_inj h5
    obtain ⟨_, h6⟩ := exB_ok (x' := w.1) (t := w.2) h3
    exact Nat.le_trans (joinP_len lv op t tb r7) (hE _ _ _ _ _ (by omega) h6)
  refine ⟨LoS.start hlv gf (hLL.mono (by simp only [List.length_tail]; omega)) (hLL.mono (by simp only [List.length_tail]; omega)) ?_, hLL⟩
  rw [← h]
  cases hx : E (lv + 1) o r.tail with
  | bad r1 e => simp only [exB, jnB, hx, PR.bind_ok, PR.bind_bad]
  | ok b r1 =>
    have e1 : exB E (lv + 1) o (.ok x r.tail) = .ok (x, b) r1 := by rw [exB, PR.bind_ok, hx]; rfl
    have e2 := hv1 x b r1 e1
    rw [e1] at hv2 ⊢
    have e3 := hv2 (x, b) (joinP lv op t tb r1).1 (joinP lv op t tb r1).2 rfl
    simp only [jnB, PR.bind_ok]
    rw [if_neg h4, e3, e2]
theorem lv5_op {op : List UInt8} (h : lvOf op = 5) : op = wPlus ∨ op = wMinus := by
  have := (ops_lv (i := 5) (by decide)).2 h
  simpa [opsL] using this
theorem opV_ne {lv : Nat} (hlv : 1 ≤ lv) {x : α} {r r0 : List Tk} {q : PR α} (hr : opS lv q = .ok x r) (h : opV lv q ≠ []) (hL : LL (r0.length) q) : r.length < r0.length := by
  cases q with
  | bad r e => cases hr
  | ok y r1 =>
    by_cases hl : lvOf (hd r1).tx = lv
    · simp only [opS, if_pos hl] at hr
      obtain ⟨_, rfl⟩ := PR.ok_inj hr
      have := hL y r1 rfl
      have h1 : r1 ≠ [] := fun e => by
        rw [e, show (hd ([] : List Tk)).tx = [] from rfl, lvOf_nil] at hl
        omega
      have := List.length_pos_iff.2 h1
      simp only [List.length_tail]; omega
    · simp only [opV, if_neg hl] at h; exact absurd rfl h
end
end Go.Proofs.YtnpenepdechkjaaGreatDoor
