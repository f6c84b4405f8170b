/- The state of the reference's parser in memory. -/
import Derived.Test.YtnpenepdechkjaaGreatDoorVc
import Derived.Test.YtnpenepdechkjaaGreatDoorMc
namespace Go.Proofs.YtnpenepdechkjaaGreatDoor
open Go Go.RowKit

theorem PR.bind_assoc {α β γ : Type} (m : PR α) (f : α → List Tk → PR β) (g : β → List Tk → PR γ) : (m.bind f).bind g = m.bind fun x r => (f x r).bind g := by cases m <;> rfl
/-- The state of the reference's parser in its block. -/
structure SB (W : World) (b : Nat) (A : Option Addr) (N c : Nat) (toks : List Tk) (a o : Nat) (bd pl : Int) : Prop where
  blk : W.heap[b]? = some (.cells #[.slice A N c, .int .i64 a, .int .i64 o, .int .i64 bd, .int .i64 pl] 62 (0, 0))
  tok : SL tcf 4 W A N toks
  wf : WfT toks
  old : ∀ x, A = some x → x.block ≠ b
  at_ : a < N
  nb : N ≤ 100000
  sz : ∀ t ∈ toks, t.tx.length ≤ 100000
section
variable {W W' : World} {b : Nat} {A : Option Addr} {N c : Nat} {toks : List Tk} {a o : Nat} {bd pl : Int}
theorem SB.lt (h : SB W b A N c toks a o bd pl) : b < W.heap.size := lt_of_block h.blk
theorem SB.len (h : SB W b A N c toks a o bd pl) : N = toks.length := h.tok.1
theorem SB.ext (h : SB W b A N c toks a o bd pl) (hx : Ext W W') : SB W' b A N c toks a o bd pl :=
  ⟨by rw [hx.block b h.lt]; exact h.blk, h.tok.ext hx, h.wf, h.old, h.at_, h.nb, h.sz⟩
theorem SB.c0 (h : SB W b A N c toks a o bd pl) : W.cell? ⟨b, 0, none⟩ = some (.slice A N c) := by rw [cell_of_row W _ _ _ 62 (0, 0) h.blk]; rfl
theorem SB.c1 (h : SB W b A N c toks a o bd pl) : W.cell? ⟨b, 1, none⟩ = some (.int .i64 a) := by rw [cell_of_row W _ _ _ 62 (0, 0) h.blk]; rfl
theorem SB.c2 (h : SB W b A N c toks a o bd pl) : W.cell? ⟨b, 2, none⟩ = some (.int .i64 o) := by rw [cell_of_row W _ _ _ 62 (0, 0) h.blk]; rfl
theorem SB.c3 (h : SB W b A N c toks a o bd pl) : W.cell? ⟨b, 3, none⟩ = some (.int .i64 bd) := by rw [cell_of_row W _ _ _ 62 (0, 0) h.blk]; rfl
theorem SB.c4 (h : SB W b A N c toks a o bd pl) : W.cell? ⟨b, 4, none⟩ = some (.int .i64 pl) := by rw [cell_of_row W _ _ _ 62 (0, 0) h.blk]; rfl
theorem SB.fz (h : SB W b A N c toks a o bd pl) (i : Nat) : W.frozen? ⟨b, i, none⟩ = false := frozen_of_row W _ i _ 62 h.blk
theorem SB.set1 (h : SB W b A N c toks a o bd pl) (a' : Nat) (ha : a' < N) : SB (W.setCell ⟨b, 1, none⟩ (.int .i64 a')) b A N c toks a' o bd pl :=
  ⟨(heap_setCell_same W b 1 _ 62 _ h.blk).trans rfl, h.tok.blocks fun x hx _ => heap_setCell_other W _ _ _ (h.old x hx), h.wf, h.old, ha, h.nb, h.sz⟩
theorem SB.set2 (h : SB W b A N c toks a o bd pl) (o' : Nat) : SB (W.setCell ⟨b, 2, none⟩ (.int .i64 o')) b A N c toks a o' bd pl :=
  ⟨(heap_setCell_same W b 2 _ 62 _ h.blk).trans rfl, h.tok.blocks fun x hx _ => heap_setCell_other W _ _ _ (h.old x hx), h.wf, h.old, h.at_, h.nb, h.sz⟩
theorem SB.set3 (h : SB W b A N c toks a o bd pl) (z : Int) : SB (W.setCell ⟨b, 3, none⟩ (.int .i64 z)) b A N c toks a o z pl :=
  ⟨(heap_setCell_same W b 3 _ 62 _ h.blk).trans rfl, h.tok.blocks fun x hx _ => heap_setCell_other W _ _ _ (h.old x hx), h.wf, h.old, h.at_, h.nb, h.sz⟩
theorem SB.set4 (h : SB W b A N c toks a o bd pl) (z : Int) : SB (W.setCell ⟨b, 4, none⟩ (.int .i64 z)) b A N c toks a o bd z :=
  ⟨(heap_setCell_same W b 4 _ 62 _ h.blk).trans rfl, h.tok.blocks fun x hx _ => heap_setCell_other W _ _ _ (h.old x hx), h.wf, h.old, h.at_, h.nb, h.sz⟩
/-- The token at the cursor. -/
theorem SB.tk (h : SB W b A N c toks a o bd pl) : ∃ g off t, A = some ⟨g, off, none⟩ ∧ g < W.heap.size ∧ toks[a]? = some t ∧ t ∈ toks ∧ hd (toks.drop a) = t ∧ (toks.drop a).tail = toks.drop (a + 1) ∧
    W.cell? ⟨g, off + a * 4, none⟩ = some (.int .i64 t.kd) ∧ W.cell? ⟨g, off + a * 4 + 1, none⟩ = some (.int .i64 t.at_) ∧ W.cell? ⟨g, off + a * 4 + 2, none⟩ = some (.string (bs t.tx)) ∧ W.cell? ⟨g, off + a * 4 + 3, none⟩ = some (.int .i64 t.nm) := by
  obtain ⟨g, off, e, hg, hc⟩ := h.tok.2 (by have := h.at_; omega)
  have hl := h.len
  have hat := h.at_
  obtain ⟨t, ht⟩ : ∃ t, toks[a]? = some t := ⟨_, List.getElem?_eq_getElem (by omega)⟩
  have hcc := hc a t ht
  refine ⟨g, off, t, e, hg, ht, List.mem_of_getElem? ht, ?_, by rw [List.tail_drop], ?_, hcc 1 _ rfl, hcc 2 _ rfl, hcc 3 _ rfl⟩
  · unfold hd
    rw [List.headD_eq_head?_getD, List.head?_drop, ht]; rfl
  · have := hcc 0 _ rfl
    rwa [Nat.add_zero] at this
theorem SB.hd_mem (h : SB W b A N c toks a o bd pl) : hd (toks.drop a) ∈ toks ∧ toks[a]? = some (hd (toks.drop a)) ∧ (toks.drop a).tail = toks.drop (a + 1) := by
  obtain ⟨g, off, t, _, _, h2, h3, h4, h5, _⟩ := h.tk
  rw [h4]; exact ⟨h3, h2, h5⟩
/-- A token with a kind is not the last one. -/
theorem SB.go (h : SB W b A N c toks a o bd pl) (hk : (hd (toks.drop a)).kd ≠ 0) : a + 1 < N := by
  have ht := h.hd_mem.2.1
  obtain ⟨ts, k, e, _⟩ := h.wf
  have hl := h.len
  have ha := (List.getElem?_eq_some_iff.1 ht).1
  by_cases h1 : a + 1 < N
  · exact h1
  · exfalso
    have h2 : a = ts.length := by rw [hl, e] at h1; rw [e] at ha; simp at h1 ha; omega
    rw [e, h2] at ht
    simp at ht
    rw [e, h2] at hk
    simp [hd, endT] at hk
theorem SB.txne (h : SB W b A N c toks a o bd pl) {s : List UInt8} (hx : (hd (toks.drop a)).tx = s) (hs : s ≠ []) : (hd (toks.drop a)).kd ≠ 0 := h.wf.kd0 h.hd_mem.1 (by rw [hx]; exact hs)
theorem SB.keep (h : SB W b A N c toks a o bd pl) (n : Nat) (hb : b < n) (hA : ∀ x, A = some x → x.block < n) (hk : ∀ k, k < n → W'.heap[k]? = W.heap[k]?) : SB W' b A N c toks a o bd pl :=
  ⟨(hk b hb).trans h.blk, h.tok.blocks fun x hx _ => hk _ (hA x hx), h.wf, h.old, h.at_, h.nb, h.sz⟩
theorem SB.lts (h : SB W b A N c toks a o bd pl) : ∀ x, A = some x → x.block < W.heap.size := fun x hx => by
  obtain ⟨g, off, e, hg, _⟩ := h.tok.2 (by have := h.at_; omega)
  rw [e] at hx
  injection hx with hx
  rw [← hx]; exact hg
end
/-- The parser stands where the plain one stands: it reads on, or it has failed. -/
def SP {α : Type} (W : World) (b : Nat) (A : Option Addr) (N c : Nat) (toks : List Tk) (o : Nat) (q : PR α) : Prop :=
  match q with
  | .ok _ r => o ≤ 12 ∧ ∃ a, r = toks.drop a ∧ SB W b A N c toks a o 0 0
  | .bad r e => o ≤ 20 ∧ e ≠ 0 ∧ ∃ a, r = toks.drop a ∧ SB W b A N c toks a o e (hd r).at_
section
variable {α : Type} {W W' : World} {b : Nat} {A : Option Addr} {N c : Nat} {toks : List Tk} {o : Nat} {q : PR α}
theorem SP.ext (h : SP W b A N c toks o q) (hx : Ext W W') : SP W' b A N c toks o q := by
  cases q with
  | ok x r => obtain ⟨h0, a, h1, h2⟩ := h; exact ⟨h0, a, h1, h2.ext hx⟩
  | bad r e => obtain ⟨h0, h3, a, h1, h2⟩ := h; exact ⟨h0, h3, a, h1, h2.ext hx⟩
/-- What is known in both modes. -/
theorem SP.any (h : SP W b A N c toks o q) : o ≤ 20 ∧ ∃ a bd pl, SB W b A N c toks a o bd pl ∧ ((∃ x, q = .ok x (toks.drop a) ∧ bd = 0 ∧ pl = 0 ∧ o ≤ 12) ∨ (q = .bad (toks.drop a) bd ∧ bd ≠ 0 ∧ pl = (hd (toks.drop a)).at_)) := by
  cases q with
  | ok x r => obtain ⟨h0, a, rfl, h2⟩ := h; exact ⟨by omega, a, 0, 0, h2, .inl ⟨x, rfl, rfl, rfl, h0⟩⟩
  | bad r e => obtain ⟨h0, h3, a, rfl, h2⟩ := h; exact ⟨h0, a, e, _, h2, .inr ⟨rfl, h3, rfl⟩⟩
theorem SP.lt (h : SP W b A N c toks o q) : b < W.heap.size := by obtain ⟨_, a, bd, pl, h, _⟩ := h.any; exact h.lt
/-- What is not read does not count. -/
theorem SP.map {β : Type} (h : SP W b A N c toks o q) (f : α → β) : SP W b A N c toks o (q.bind fun x r => .ok (f x) r) := by
  cases q with
  | ok x r => exact h
  | bad r e => exact h
end
def isP {α : Type} (s : List UInt8) : PR α → Bool
  | .ok _ r => decide ((hd r).tx = s)
  | .bad _ _ => false
def takeP {α : Type} (s : List UInt8) : PR α → PR α
  | .ok x r => if (hd r).tx = s then .ok x r.tail else .ok x r
  | .bad r e => .bad r e
def mustB {α : Type} (s : List UInt8) (q : PR α) : PR α := q.bind fun x r => (mustP s r).bind fun _ r => .ok x r
theorem take_must {α : Type} (s : List UInt8) (q : PR α) : (isP s q = true → mustB s q = takeP s q) ∧ (isP s q = false → mustB s q = q.bind fun _ r => .bad r 20) := by
  cases q with
  | bad r e => exact ⟨fun h => (by cases h), fun _ => rfl⟩
  | ok x r =>
    refine ⟨fun h => ?_, fun h => ?_⟩
    · have hx : (hd r).tx = s := by simpa [isP] using h
      simp [mustB, mustP, takeP, hx]
    · have hx : ¬ (hd r).tx = s := by simpa [isP] using h
      simp [mustB, mustP, hx]
end Go.Proofs.YtnpenepdechkjaaGreatDoor

/- The reference's readers: fail, is, take, must, opens. -/
namespace Go.Proofs.YtnpenepdechkjaaGreatDoor
open Go Go.RowKit

section
variable {α : Type} {W : World} {b : Nat} {A : Option Addr} {N c : Nat} {toks : List Tk} {o : Nat} {q : PR α}
theorem rfail_any (h : SP W b A N c toks o q) (e : Int) (he : e ≠ 0) :
    Calls Tryz.prog 42 #[.pointer (some ⟨b, 0, none⟩), .int .i64 e] W (fun en W' => en = .returned (.tuple #[]) ∧ SP W' b A N c toks o (q.bind fun _ r => (PR.bad r e : PR α)) ∧ Mv b W W') := by
  obtain ⟨ho, a, bd, pl, hs, (⟨x, rfl, rfl, rfl, ho2⟩ | ⟨rfl, hbd, rfl⟩)⟩ := h.any
  · obtain ⟨g, off, t, rfl, hg, _, _, h4, _, k0, k1, k2, k3⟩ := hs.tk
    have hgb : ¬ g = b := fun e => hs.old _ rfl e
    have hbg : ¬ b = g := fun e => hgb e.symm
    have hbl := hs.lt
    have c0 := hs.c0
    have c1 := hs.c1
    have c3 := hs.c3
    have c4 := hs.c4
    have f3 := hs.fz 3
    have f4 := hs.fz 4
    have haI : (a : Int) < (N : Int) := by have := hs.at_; omega
    have HF := Lib.hid (show SP ((W.setCell ⟨b, 3, none⟩ (.int .i64 e)).setCell ⟨b, 4, none⟩ (.int .i64 t.at_)) b (some ⟨g, off, none⟩) N c toks o ((PR.ok x (toks.drop a)).bind fun _ r => (PR.bad r e : PR α)) from ⟨ho, he, a, rfl, by rw [h4]; exact (hs.set3 e).set4 t.at_⟩)
    clear h hs h4 k0 k2 k3 he
    go_enter Tryz.func42, Tryz.ntmps42
    go_upto_region 2 with (fail)
    go_region
    all_goals
      go_wp2
      go_end0
      exact ⟨rfl, HF.out.ext (Ext.refl _).drew, ((Mv.set _).trans (Mv.set _)).trans (Mv.of_ext (Ext.refl _).drew)⟩
  · have c3 := hs.c3
    have t0 : (bd == 0) = false := beq_eq_false_iff_ne.2 hbd
    have HF := Lib.hid h
    have hbl := hs.lt
    clear h hs hbd he
    go_enter Tryz.func42, Tryz.ntmps42
    go_wp2
    go_end0
    exact ⟨rfl, HF.out, Mv.refl _ _⟩
theorem is_any (h : SP W b A N c toks o q) (s : List UInt8) (S : ByteArray) (hS : S = bs s) : Calls Tryz.prog 88 #[.pointer (some ⟨b, 0, none⟩), .string S] W (BQ2 (isP s q) W) := by
  obtain ⟨ho, a, bd, pl, hs, (⟨x, rfl, rfl, rfl, ho2⟩ | ⟨rfl, hbd, rfl⟩)⟩ := h.any
  · obtain ⟨g, off, t, rfl, hg, _, _, h4, _, k0, k1, k2, k3⟩ := hs.tk
    obtain ⟨T, hT⟩ : ∃ T, T = bs t.tx := ⟨_, rfl⟩
    rw [← hT] at k2
    have c0 := hs.c0
    have c1 := hs.c1
    have c3 := hs.c3
    have haI : (a : Int) < (N : Int) := by have := hs.at_; omega
    have hte : (T.toList == S.toList) = decide (t.tx = s) := by rw [hT, hS, bs_list, bs_list, Bool.eq_iff_iff, beq_iff_eq, decide_eq_true_eq]
    have HF := Lib.hid (show isP s (PR.ok x (toks.drop a)) = decide (t.tx = s) by rw [isP, h4])
    rw [HF.out]
    clear h hs h4 k0 k1 k3 hT hS
    go_enter Tryz.func88, Tryz.ntmps88
    go_upto_region 1 with (fail)
    go_quiet (fail)
    go_wp2
    go_ret
    exact ⟨rfl, (Ext.refl _).drewN _⟩
  · have c3 := hs.c3
    have t0 : (bd == 0) = false := beq_eq_false_iff_ne.2 hbd
    clear h hs hbd
    go_enter Tryz.func88, Tryz.ntmps88
    go_upto_region 1 with (fail)
    go_quiet (fail)
    go_wp2
    go_ret
    exact ⟨rfl, (Ext.refl _).drewN _⟩
theorem rtake_any (h : SP W b A N c toks o q) (s : List UInt8) (S : ByteArray) (hS : S = bs s) (hs0 : s ≠ []) :
    Calls Tryz.prog 85 #[.pointer (some ⟨b, 0, none⟩), .string S] W (fun e W' => e = .returned (.bool (isP s q)) ∧ SP W' b A N c toks o (takeP s q) ∧ Mv b W W') := by
  have HI := Lib.hid (is_any h s S hS)
  cases hi : isP s q with
  | false =>
    rw [hi] at HI
    have HF := Lib.hid (show takeP s q = q by
      cases q with
      | bad r e => rfl
      | ok x r => rw [takeP, if_neg]; simpa [isP] using hi)
    rw [HF.out]
    have HH := Lib.hid h
    clear h hi hS
    go_enter Tryz.func85, Tryz.ntmps85
    go_wp2_with (first | (go_at_call 88; refine (HI.out).mono ?_; rintro e w1 ⟨rfl, hx⟩))
    go_ret
    exact ⟨rfl, HH.out.ext hx, Mv.of_ext hx⟩
  | true =>
    rw [hi] at HI
    obtain ⟨ho, a, bd, pl, hs, (⟨x, rfl, rfl, rfl, ho2⟩ | ⟨rfl, hbd, rfl⟩)⟩ := h.any
    case inr => cases hi
    have hx : (hd (toks.drop a)).tx = s := by simpa [isP] using hi
    have hgo := hs.go (hs.txne hx hs0)
    have htl := hs.hd_mem.2.2
    have haI : (a : Int) ≤ 100000 := by have := hs.nb; have := hs.at_; omega
    have HF := Lib.hid (show takeP s (PR.ok x (toks.drop a)) = .ok x (toks.drop (a + 1)) by rw [takeP, if_pos hx, htl])
    have HS := Lib.hid hs
    rw [HF.out]
    clear h hi hx htl hS hs
    go_enter Tryz.func85, Tryz.ntmps85
    go_upto_region 3 with (first | (go_at_call 88; refine (HI.out).mono ?_; rintro e w1 ⟨rfl, hx1⟩))
    have hbl := (HS.out.ext hx1).lt
    have c1 := (HS.out.ext hx1).c1
    have f1 := (HS.out.ext hx1).fz 1
    have HX := Lib.hid hx1
    clear hx1
    go_wp2
    go_ret
    exact ⟨rfl, ⟨ho2, a + 1, rfl, by simpa using (HS.out.ext HX.out).set1 (a + 1) hgo⟩, (Mv.of_ext HX.out).trans (Mv.set _)⟩
theorem rmust_any (h : SP W b A N c toks o q) (s : List UInt8) (S : ByteArray) (hS : S = bs s) (hs0 : s ≠ []) :
    Calls Tryz.prog 82 #[.pointer (some ⟨b, 0, none⟩), .string S] W (fun e W' => e = .returned (.tuple #[]) ∧ SP W' b A N c toks o (mustB s q) ∧ Mv b W W') := by
  have HT := Lib.hid (rtake_any h s S hS hs0)
  obtain ⟨h1, h2⟩ := take_must s q
  cases hi : isP s q with
  | true =>
    rw [hi] at HT
    have HF := Lib.hid (h1 hi)
    rw [HF.out]
    clear h hi h1 h2 hS
    go_enter Tryz.func82, Tryz.ntmps82
    go_wp2_with (first | (go_at_call 85; refine (HT.out).mono ?_; rintro e w1 ⟨rfl, hp, hm⟩))
    go_end0
    exact ⟨rfl, hp, hm⟩
  | false =>
    rw [hi] at HT
    have HF := Lib.hid (h2 hi)
    have HQ := Lib.hid (show takeP s q = q by
      cases q with
      | bad r e => rfl
      | ok x r => rw [takeP, if_neg]; simpa [isP] using hi)
    rw [HF.out]
    rw [HQ.out] at HT
    clear h hi h1 h2 hS
    go_enter Tryz.func82, Tryz.ntmps82
    go_wp2_with (first
      | (go_at_call 85; refine (HT.out).mono ?_; rintro e w1 ⟨rfl, hp, hm⟩; have HP := Lib.hid hp; have HM := Lib.hid hm; clear hp hm)
      | (go_at_call 42; refine (rfail_any HP.out 20 (by decide)).mono ?_; rintro e w2 ⟨rfl, hp2, hm2⟩))
    go_end0
    exact ⟨rfl, hp2, HM.out.trans hm2⟩
theorem SP.openS (h : SP W b A N c toks o q) (o' : Nat) (h1 : (∃ x r, q = .ok x r) → o' ≤ 12) (h2 : o' ≤ 20) : SP (W.setCell ⟨b, 2, none⟩ (.int .i64 o')) b A N c toks o' q := by
  cases q with
  | ok x r => obtain ⟨h0, a, h3, h4⟩ := h; exact ⟨h1 ⟨x, r, rfl⟩, a, h3, h4.set2 o'⟩
  | bad r e => obtain ⟨h0, h3, a, h4, h5⟩ := h; exact ⟨h2, h3, a, h4, h5.set2 o'⟩
def opensB (s : List UInt8) (o : Nat) (q : PR α) : PR α := q.bind fun x r => (opensP s o r).bind fun _ r => .ok x r
theorem opensB_lt {s : List UInt8} {o : Nat} (ho : o ≤ 12) {x : α} {r : List Tk} (h : opensB s o q = .ok x r) : o + 1 ≤ 12 := by
  cases q with
  | bad r e => cases h
  | ok y r2 =>
    simp only [opensB, PR.bind_ok, opensP] at h
    split at h
    · split at h
      · cases h
      · omega
    · cases h
/-- The four ways of opens. -/
theorem opens_ways (s : List UInt8) (o : Nat) (q : PR α) : opensB s o q = takeP s (if o = 12 then (if isP s q then q else q.bind fun _ r => .bad r 20).bind fun _ r => .bad r 2 else if isP s q then q else q.bind fun _ r => .bad r 20) := by
  cases q with
  | bad r e => simp [opensB, isP, takeP]
  | ok x r =>
    by_cases hx : (hd r).tx = s
    · by_cases h12 : o = 12 <;> simp [opensB, isP, takeP, opensP, hx, h12]
    · by_cases h12 : o = 12 <;> simp [opensB, isP, takeP, opensP, hx, h12]
end
end Go.Proofs.YtnpenepdechkjaaGreatDoor

/- The reference's readers: opens, the kinds of words. -/
namespace Go.Proofs.YtnpenepdechkjaaGreatDoor
open Go Go.RowKit

section
variable {α : Type} {W : World} {b : Nat} {A : Option Addr} {N c : Nat} {toks : List Tk} {o : Nat} {q : PR α}
theorem SP.c2 (h : SP W b A N c toks o q) : b < W.heap.size ∧ W.cell? ⟨b, 2, none⟩ = some (.int .i64 o) ∧ W.frozen? ⟨b, 2, none⟩ = false := by
  obtain ⟨_, a, bd, pl, hs, _⟩ := h.any
  exact ⟨hs.lt, hs.c2, hs.fz 2⟩
theorem ropens_any (h : SP W b A N c toks o q) (ho : o ≤ 12) (s : List UInt8) (S : ByteArray) (hS : S = bs s) (hs0 : s ≠ []) :
    Calls Tryz.prog 129 #[.pointer (some ⟨b, 0, none⟩), .string S] W (fun e W' => e = .returned (.tuple #[]) ∧ SP W' b A N c toks (o + 1) (opensB s o q) ∧ Mv b W W') := by
  have HI := Lib.hid (is_any h s S hS)
  have HT := Lib.hid (fun (X : World) (q' : PR α) (hq : SP X b A N c toks o q') => rtake_any hq s S hS hs0)
  have HH := Lib.hid h
  have HW := Lib.hid (opens_ways s o q)
  have HLT := Lib.hid (fun x r (hq : opensB s o q = .ok x r) => opensB_lt ho hq)
  have hoI : (o : Int) ≤ 12 := by omega
  have HC := Lib.hid (show (o : Int) + 1 = ((o + 1 : Nat) : Int) by omega)
  have HOB := Lib.hid (show o + 1 ≤ 20 by omega)
  cases hi : isP s q with
  | true =>
    by_cases h12 : o = 12
    · have t12 : (12 : Int) ≤ (o : Int) := by omega
      rw [hi] at HI
      have HE := Lib.hid (show opensB s o q = takeP s (q.bind fun _ r => PR.bad r 2) by rw [HW.out, if_pos h12, hi]; rfl)
      clear h hi h12 hS ho
      go_enter Tryz.func129, Tryz.ntmps129
      go_wp2_with fail
      refine (HI.out).mono ?_
      rintro e w1 ⟨rfl, hx1⟩
      have HP1 := Lib.hid (HH.out.ext hx1)
      have HM1 := Lib.hid (Mv.of_ext (b := b) hx1)
      clear hx1
      obtain ⟨bl, c2, f2⟩ := HP1.out.c2
      go_wp2_with fail
      refine (rfail_any HP1.out 2 (by decide)).mono ?_
      rintro e w3 ⟨rfl, hp3, hm3⟩
      have HP3 := Lib.hid hp3
      have HM3 := Lib.hid (HM1.out.trans hm3)
      clear hp3 hm3
      go_wp2_with fail
      refine (HT.out _ _ HP3.out).mono ?_
      rintro e w4 ⟨rfl, hp4, hm4⟩
      rw [← HE.out] at hp4
      have HP4 := Lib.hid hp4
      have HM4 := Lib.hid (HM3.out.trans hm4)
      clear hp4 hm4 bl c2 f2
      obtain ⟨bl, c2, f2⟩ := HP4.out.c2
      go_wp2
      go_end0
      rw [HC.out]
      exact ⟨rfl, HP4.out.openS (o + 1) (fun ⟨x, r, e⟩ => HLT.out x r e) HOB.out, HM4.out.trans (Mv.set _)⟩
    · have t12 : ¬ (12 : Int) ≤ (o : Int) := by omega
      rw [hi] at HI
      have HE := Lib.hid (show opensB s o q = takeP s q by rw [HW.out, if_neg h12, hi]; rfl)
      clear h hi h12 hS ho
      go_enter Tryz.func129, Tryz.ntmps129
      go_wp2_with fail
      refine (HI.out).mono ?_
      rintro e w1 ⟨rfl, hx1⟩
      have HP1 := Lib.hid (HH.out.ext hx1)
      have HM1 := Lib.hid (Mv.of_ext (b := b) hx1)
      clear hx1
      obtain ⟨bl, c2, f2⟩ := HP1.out.c2
      go_wp2_with fail
      refine (HT.out _ _ HP1.out).mono ?_
      rintro e w4 ⟨rfl, hp4, hm4⟩
      rw [← HE.out] at hp4
      have HP4 := Lib.hid hp4
      have HM4 := Lib.hid (HM1.out.trans hm4)
      clear hp4 hm4 bl c2 f2
      obtain ⟨bl, c2, f2⟩ := HP4.out.c2
      go_wp2
      go_end0
      rw [HC.out]
      exact ⟨rfl, HP4.out.openS (o + 1) (fun ⟨x, r, e⟩ => HLT.out x r e) HOB.out, HM4.out.trans (Mv.set _)⟩
  | false =>
    by_cases h12 : o = 12
    · have t12 : (12 : Int) ≤ (o : Int) := by omega
      rw [hi] at HI
      have HE := Lib.hid (show opensB s o q = takeP s ((q.bind fun _ r => PR.bad r 20).bind fun _ r => PR.bad r 2) by rw [HW.out, if_pos h12, hi]; rfl)
      clear h hi h12 hS ho
      go_enter Tryz.func129, Tryz.ntmps129
      go_wp2_with fail
      refine (HI.out).mono ?_
      rintro e w1 ⟨rfl, hx1⟩
      have HP1 := Lib.hid (HH.out.ext hx1)
      have HM1 := Lib.hid (Mv.of_ext (b := b) hx1)
      clear hx1
      go_wp2_with fail
      refine (rfail_any HP1.out 20 (by decide)).mono ?_
      rintro e w2 ⟨rfl, hp2, hm2⟩
      have HP2 := Lib.hid hp2
      have HM2 := Lib.hid (HM1.out.trans hm2)
      clear hp2 hm2
      obtain ⟨bl, c2, f2⟩ := HP2.out.c2
      go_wp2_with fail
      refine (rfail_any HP2.out 2 (by decide)).mono ?_
      rintro e w3 ⟨rfl, hp3, hm3⟩
      have HP3 := Lib.hid hp3
      have HM3 := Lib.hid (HM2.out.trans hm3)
      clear hp3 hm3
      go_wp2_with fail
      refine (HT.out _ _ HP3.out).mono ?_
      rintro e w4 ⟨rfl, hp4, hm4⟩
      rw [← HE.out] at hp4
      have HP4 := Lib.hid hp4
      have HM4 := Lib.hid (HM3.out.trans hm4)
      clear hp4 hm4 bl c2 f2
      obtain ⟨bl, c2, f2⟩ := HP4.out.c2
      go_wp2
      go_end0
      rw [HC.out]
      exact ⟨rfl, HP4.out.openS (o + 1) (fun ⟨x, r, e⟩ => HLT.out x r e) HOB.out, HM4.out.trans (Mv.set _)⟩
    · have t12 : ¬ (12 : Int) ≤ (o : Int) := by omega
      rw [hi] at HI
      have HE := Lib.hid (show opensB s o q = takeP s (q.bind fun _ r => PR.bad r 20) by rw [HW.out, if_neg h12, hi]; rfl)
      clear h hi h12 hS ho
      go_enter Tryz.func129, Tryz.ntmps129
      go_wp2_with fail
      refine (HI.out).mono ?_
      rintro e w1 ⟨rfl, hx1⟩
      have HP1 := Lib.hid (HH.out.ext hx1)
      have HM1 := Lib.hid (Mv.of_ext (b := b) hx1)
      clear hx1
      go_wp2_with fail
      refine (rfail_any HP1.out 20 (by decide)).mono ?_
      rintro e w2 ⟨rfl, hp2, hm2⟩
      have HP2 := Lib.hid hp2
      have HM2 := Lib.hid (HM1.out.trans hm2)
      clear hp2 hm2
      obtain ⟨bl, c2, f2⟩ := HP2.out.c2
      go_wp2_with fail
      refine (HT.out _ _ HP2.out).mono ?_
      rintro e w4 ⟨rfl, hp4, hm4⟩
      rw [← HE.out] at hp4
      have HP4 := Lib.hid hp4
      have HM4 := Lib.hid (HM2.out.trans hm4)
      clear hp4 hm4 bl c2 f2
      obtain ⟨bl, c2, f2⟩ := HP4.out.c2
      go_wp2
      go_end0
      rw [HC.out]
      exact ⟨rfl, HP4.out.openS (o + 1) (fun ⟨x, r, e⟩ => HLT.out x r e) HOB.out, HM4.out.trans (Mv.set _)⟩
end
end Go.Proofs.YtnpenepdechkjaaGreatDoor

/- The reference's readers: the kinds of words, token, name. -/
namespace Go.Proofs.YtnpenepdechkjaaGreatDoor
open Go Go.RowKit

theorem runit_any (s : List UInt8) (S : ByteArray) (hS : S = bs s) (W : World) : Calls Tryz.prog 135 #[.string S] W (BQ2 (decide (s ∈ units)) W) := by
  have hsr := SR.new W units #[.string ⟨#[100, 97, 121, 115]⟩, .string ⟨#[119, 101, 101, 107, 115]⟩, .string ⟨#[109, 111, 110, 116, 104, 115]⟩, .string ⟨#[99, 111, 117, 114, 116, 100, 97, 121, 115]⟩] rfl
  have HA := Lib.hid (show Calls Tryz.prog 146 #[.slice (some ⟨W.heap.size, 0, none⟩) 4 4, .string S] _ (BQ2 (decide (s ∈ units)) _) from among_any units W.heap.size 4 s S hS _ hsr (by decide))
  have HX := Lib.hid ((Ext.refl W).alloc (.cells #[.string ⟨#[100, 97, 121, 115]⟩, .string ⟨#[119, 101, 101, 107, 115]⟩, .string ⟨#[109, 111, 110, 116, 104, 115]⟩, .string ⟨#[99, 111, 117, 114, 116, 100, 97, 121, 115]⟩] 9))
  obtain ⟨v, hv⟩ : ∃ v, v = decide (s ∈ units) := ⟨_, rfl⟩
  rw [← hv] at HA ⊢
  clear hsr hS hv
  go_enter Tryz.func135, Tryz.ntmps135
  go_wp2_with (first | (go_at_call 146; refine (HA.out).mono ?_; rintro e w1 ⟨rfl, hx⟩))
  go_ret
  exact ⟨rfl, HX.out.trans hx⟩
theorem rfield_any (s : List UInt8) (S : ByteArray) (hS : S = bs s) (W : World) : Calls Tryz.prog 133 #[.string S] W (BQ2 (decide (s ∈ fields)) W) := by
  have hsr := SR.new W fields #[.string ⟨#[100, 97, 121]⟩, .string ⟨#[115, 101, 114, 118, 101, 100]⟩, .string ⟨#[101, 120, 116, 114, 97]⟩, .string ⟨#[98, 121]⟩, .string ⟨#[116, 111]⟩, .string ⟨#[99, 111, 117, 114, 116]⟩, .string ⟨#[97, 109, 111, 117, 110, 116]⟩] rfl
  have HA := Lib.hid (show Calls Tryz.prog 146 #[.slice (some ⟨W.heap.size, 0, none⟩) 7 7, .string S] _ (BQ2 (decide (s ∈ fields)) _) from among_any fields W.heap.size 7 s S hS _ hsr (by decide))
  have HX := Lib.hid ((Ext.refl W).alloc (.cells #[.string ⟨#[100, 97, 121]⟩, .string ⟨#[115, 101, 114, 118, 101, 100]⟩, .string ⟨#[101, 120, 116, 114, 97]⟩, .string ⟨#[98, 121]⟩, .string ⟨#[116, 111]⟩, .string ⟨#[99, 111, 117, 114, 116]⟩, .string ⟨#[97, 109, 111, 117, 110, 116]⟩] 9))
  obtain ⟨v, hv⟩ : ∃ v, v = decide (s ∈ fields) := ⟨_, rfl⟩
  rw [← hv] at HA ⊢
  clear hsr hS hv
  go_enter Tryz.func133, Tryz.ntmps133
  go_wp2_with (first | (go_at_call 146; refine (HA.out).mono ?_; rintro e w1 ⟨rfl, hx⟩))
  go_ret
  exact ⟨rfl, HX.out.trans hx⟩
def argN (s : List UInt8) : Nat := if s = wNext ∨ s = wPrev then 1 else if s = wLater ∨ s = wEarlier ∨ s = wBetween then 2 else 0
theorem argN_fun {s : List UInt8} : (0 < argN s ↔ s ∈ functions) ∧ (s ∈ functions → argN s = argsN s) := by
  unfold argN argsN functions
  constructor
  · constructor
    · intro h
      split at h
      · rename_i h1; rcases h1 with rfl | rfl <;> decide
      split at h
      · rename_i h1; rcases h1 with rfl | rfl | rfl <;> decide
      · omega
    · intro h
      simp only [List.mem_cons, List.not_mem_nil, or_false] at h
      rcases h with rfl | rfl | rfl | rfl | rfl <;> decide
  · intro h
    simp only [List.mem_cons, List.not_mem_nil, or_false] at h
    rcases h with rfl | rfl | rfl | rfl | rfl <;> decide
theorem lit_ne {x : List UInt8} {S : ByteArray} (hS : S = bs x) (y : List UInt8) (h : x ≠ y) : (S.toList == y) = false := by rw [hS, bs_list]; exact beq_eq_false_iff_ne.2 h
theorem lit_eq {x : List UInt8} {S : ByteArray} (hS : S = bs x) (y : List UInt8) (h : x = y) : (S.toList == y) = true := by rw [hS, bs_list, h]; exact beq_self_eq_true _
theorem rargs_any (s : List UInt8) (S : ByteArray) (hS : S = bs s) (W : World) : Calls Tryz.prog 131 #[.string S] W (fun e W' => e = .returned (.int .i64 (argN s : Nat)) ∧ Ext W W') := by
  by_cases n0 : s = wNext
  · have t0 := lit_eq hS [110, 101, 120, 116] n0
    rw [show argN s = 1 by rw [n0]; decide]
    clear hS n0
    go_enter Tryz.func131, Tryz.ntmps131
    go_wp2
    go_ret
    exact ⟨rfl, Ext.refl _⟩
  have t0 := lit_ne hS [110, 101, 120, 116] n0
  by_cases n1 : s = wPrev
  · have t1 := lit_eq hS [112, 114, 101, 118] n1
    rw [show argN s = 1 by rw [n1]; decide]
    clear hS n0 n1
    go_enter Tryz.func131, Tryz.ntmps131
    go_wp2
    go_ret
    exact ⟨rfl, Ext.refl _⟩
  have t1 := lit_ne hS [112, 114, 101, 118] n1
  by_cases n2 : s = wLater
  · have t2 := lit_eq hS [108, 97, 116, 101, 114] n2
    rw [show argN s = 2 by rw [n2]; decide]
    clear hS n0 n1 n2
    go_enter Tryz.func131, Tryz.ntmps131
    go_wp2
    go_ret
    exact ⟨rfl, Ext.refl _⟩
  have t2 := lit_ne hS [108, 97, 116, 101, 114] n2
  by_cases n3 : s = wEarlier
  · have t3 := lit_eq hS [101, 97, 114, 108, 105, 101, 114] n3
    rw [show argN s = 2 by rw [n3]; decide]
    clear hS n0 n1 n2 n3
    go_enter Tryz.func131, Tryz.ntmps131
    go_wp2
    go_ret
    exact ⟨rfl, Ext.refl _⟩
  have t3 := lit_ne hS [101, 97, 114, 108, 105, 101, 114] n3
  by_cases n4 : s = wBetween
  · have t4 := lit_eq hS [98, 101, 116, 119, 101, 101, 110] n4
    rw [show argN s = 2 by rw [n4]; decide]
    clear hS n0 n1 n2 n3 n4
    go_enter Tryz.func131, Tryz.ntmps131
    go_wp2
    go_ret
    exact ⟨rfl, Ext.refl _⟩
  have t4 := lit_ne hS [98, 101, 116, 119, 101, 101, 110] n4
  rw [show argN s = 0 by unfold argN; rw [if_neg (by simp [n0, n1]), if_neg (by simp [n2, n3, n4])]]
  clear hS n0 n1 n2 n3 n4
  go_enter Tryz.func131, Tryz.ntmps131
  go_wp2
  go_ret
  exact ⟨rfl, Ext.refl _⟩
theorem res_iff (s : List UInt8) : decide (s ∈ reserved) = (decide (s ∈ words) || (decide (s ∈ units) || (decide (s ∈ fields) || decide (0 < argN s)))) := by
  rw [show (decide (0 < argN s)) = decide (s ∈ functions) from decide_eq_decide.2 (argN_fun (s := s)).1]
  simp only [reserved, List.mem_append, Bool.decide_or]
set_option maxHeartbeats 1000000 in
theorem rres_any (s : List UInt8) (S : ByteArray) (hS : S = bs s) (W : World) : Calls Tryz.prog 126 #[.string S] W (BQ2 (decide (s ∈ reserved)) W) := by
  have hsr := SR.new W words #[.string ⟨#[114, 117, 108, 101]⟩, .string ⟨#[102, 114, 111, 109]⟩, .string ⟨#[111, 110]⟩, .string ⟨#[105, 102]⟩, .string ⟨#[100, 117, 101]⟩, .string ⟨#[117, 110, 108, 101, 115, 115]⟩, .string ⟨#[101, 108, 115, 101]⟩, .string ⟨#[116, 114, 117, 101]⟩, .string ⟨#[102, 97, 108, 115, 101]⟩, .string ⟨#[110, 111, 116]⟩, .string ⟨#[97, 110, 100]⟩, .string ⟨#[111, 114]⟩, .string ⟨#[116, 104, 101, 110]⟩, .string ⟨#[101, 110, 100]⟩] rfl
  have HA := Lib.hid (show Calls Tryz.prog 146 #[.slice (some ⟨W.heap.size, 0, none⟩) 14 14, .string S] _ (BQ2 (decide (s ∈ words)) _) from among_any words W.heap.size 14 s S hS _ hsr (by decide))
  have HX := Lib.hid ((Ext.refl W).alloc (.cells #[.string ⟨#[114, 117, 108, 101]⟩, .string ⟨#[102, 114, 111, 109]⟩, .string ⟨#[111, 110]⟩, .string ⟨#[105, 102]⟩, .string ⟨#[100, 117, 101]⟩, .string ⟨#[117, 110, 108, 101, 115, 115]⟩, .string ⟨#[101, 108, 115, 101]⟩, .string ⟨#[116, 114, 117, 101]⟩, .string ⟨#[102, 97, 108, 115, 101]⟩, .string ⟨#[110, 111, 116]⟩, .string ⟨#[97, 110, 100]⟩, .string ⟨#[111, 114]⟩, .string ⟨#[116, 104, 101, 110]⟩, .string ⟨#[101, 110, 100]⟩] 9))
  have HU := Lib.hid (fun X => runit_any s S hS X)
  have HF := Lib.hid (fun X => rfield_any s S hS X)
  have HG := Lib.hid (fun X => rargs_any s S hS X)
  rw [res_iff]
  have hN : argN s ≤ 2 := by unfold argN; split; · omega
                             split <;> omega
  obtain ⟨b1, h1⟩ : ∃ v, v = decide (s ∈ words) := ⟨_, rfl⟩
  obtain ⟨b2, h2⟩ : ∃ v, v = decide (s ∈ units) := ⟨_, rfl⟩
  obtain ⟨b3, h3⟩ : ∃ v, v = decide (s ∈ fields) := ⟨_, rfl⟩
  obtain ⟨n, h4⟩ : ∃ v, v = argN s := ⟨_, rfl⟩
  rw [← h1] at HA
  rw [← h2] at HU
  rw [← h3] at HF
  rw [← h4] at HG hN
  rw [← h1, ← h2, ← h3, ← h4]
  clear h1 h2 h3 h4 hsr hS
  cases b1
  case true =>
    simp only [Bool.true_or]
    go_enter Tryz.func126, Tryz.ntmps126
    go_wp2_with (first | (go_at_call 146; refine (HA.out).mono ?_; rintro e w1 ⟨rfl, hx1⟩))
    go_ret
    exact ⟨rfl, HX.out.trans hx1⟩
  cases b2
  case true =>
    simp only [Bool.true_or, Bool.false_or]
    go_enter Tryz.func126, Tryz.ntmps126
    go_wp2_with (first | (go_at_call 146; refine (HA.out).mono ?_; rintro e w1 ⟨rfl, hx1⟩) | (go_at_call 135; refine (HU.out _).mono ?_; rintro e w2 ⟨rfl, hx2⟩))
    go_ret
    exact ⟨rfl, (HX.out.trans hx1).trans hx2⟩
  cases b3
  case true =>
    simp only [Bool.true_or, Bool.false_or]
    go_enter Tryz.func126, Tryz.ntmps126
    go_wp2_with (first | (go_at_call 146; refine (HA.out).mono ?_; rintro e w1 ⟨rfl, hx1⟩) | (go_at_call 135; refine (HU.out _).mono ?_; rintro e w2 ⟨rfl, hx2⟩) | (go_at_call 133; refine (HF.out _).mono ?_; rintro e w3 ⟨rfl, hx3⟩))
    go_ret
    exact ⟨rfl, ((HX.out.trans hx1).trans hx2).trans hx3⟩
  simp only [Bool.false_or]
  by_cases hn : 0 < n
  · have tI : (0 : Int) < (n : Int) := by omega
    rw [decide_eq_true hn]
    go_enter Tryz.func126, Tryz.ntmps126
    go_wp2_with (first | (go_at_call 146; refine (HA.out).mono ?_; rintro e w1 ⟨rfl, hx1⟩) | (go_at_call 135; refine (HU.out _).mono ?_; rintro e w2 ⟨rfl, hx2⟩) | (go_at_call 133; refine (HF.out _).mono ?_; rintro e w3 ⟨rfl, hx3⟩) | (go_at_call 131; refine (HG.out _).mono ?_; rintro e w4 ⟨rfl, hx4⟩))
    go_ret
    exact ⟨rfl, (((HX.out.trans hx1).trans hx2).trans hx3).trans hx4⟩
  · have tI : ¬ (0 : Int) < (n : Int) := by omega
    rw [decide_eq_false hn]
    go_enter Tryz.func126, Tryz.ntmps126
    go_wp2_with (first | (go_at_call 146; refine (HA.out).mono ?_; rintro e w1 ⟨rfl, hx1⟩) | (go_at_call 135; refine (HU.out _).mono ?_; rintro e w2 ⟨rfl, hx2⟩) | (go_at_call 133; refine (HF.out _).mono ?_; rintro e w3 ⟨rfl, hx3⟩) | (go_at_call 131; refine (HG.out _).mono ?_; rintro e w4 ⟨rfl, hx4⟩))
    go_ret
    exact ⟨rfl, (((HX.out.trans hx1).trans hx2).trans hx3).trans hx4⟩
end Go.Proofs.YtnpenepdechkjaaGreatDoor

/- The reference's token, name. -/
namespace Go.Proofs.YtnpenepdechkjaaGreatDoor
open Go Go.RowKit

/-- A token in a block of its own, whole. -/
def TX (W : World) (g : Nat) (kd at_ : Int) (S : ByteArray) (nm : Int) : Prop := W.heap[g]? = some (.cells #[.int .i64 kd, .int .i64 at_, .string S, .int .i64 nm] 46 (0, 0))
theorem TX.mv {W W' : World} {b g : Nat} {kd at_ nm : Int} {S : ByteArray} (h : TX W g kd at_ S nm) (hm : Mv b W W') (hg : g ≠ b) : TX W' g kd at_ S nm := (hm.keep g hg (lt_of_block h)).trans h
theorem TX.cs {W : World} {g : Nat} {kd at_ nm : Int} {S : ByteArray} (h : TX W g kd at_ S nm) : g < W.heap.size ∧ W.cell? ⟨g, 0, none⟩ = some (.int .i64 kd) ∧ W.cell? ⟨g, 1, none⟩ = some (.int .i64 at_) ∧ W.cell? ⟨g, 2, none⟩ = some (.string S) ∧ W.cell? ⟨g, 3, none⟩ = some (.int .i64 nm) ∧
    W.frozen? ⟨g, 0, none⟩ = false ∧ W.frozen? ⟨g, 1, none⟩ = false ∧ W.frozen? ⟨g, 2, none⟩ = false ∧ W.frozen? ⟨g, 3, none⟩ = false :=
  ⟨lt_of_block h, by rw [cell_of_row W _ _ _ 46 (0, 0) h]; rfl, by rw [cell_of_row W _ _ _ 46 (0, 0) h]; rfl, by rw [cell_of_row W _ _ _ 46 (0, 0) h]; rfl, by rw [cell_of_row W _ _ _ 46 (0, 0) h]; rfl, frozen_of_row W _ _ _ 46 h, frozen_of_row W _ _ _ 46 h, frozen_of_row W _ _ _ 46 h, frozen_of_row W _ _ _ 46 h⟩
section
variable {α : Type} {W W' X : World} {b : Nat} {A : Option Addr} {N c : Nat} {toks : List Tk} {o : Nat} {q : PR α}
theorem SP.keepN {β : Type} {o0 : Nat} {q0 : PR β} (h0 : SP W b A N c toks o0 q0) (h : SP W' b A N c toks o q) (hk : ∀ k, k < W.heap.size → X.heap[k]? = W'.heap[k]?) : SP X b A N c toks o q := by
  obtain ⟨_, a0, bd0, pl0, hs0, _⟩ := h0.any
  cases q with
  | ok x r => obtain ⟨h1, a, h2, h3⟩ := h; exact ⟨h1, a, h2, h3.keep W.heap.size hs0.lt hs0.lts hk⟩
  | bad r e => obtain ⟨h1, h4, a, h2, h3⟩ := h; exact ⟨h1, h4, a, h2, h3.keep W.heap.size hs0.lt hs0.lts hk⟩
theorem SP.fin {β : Type} {o0 : Nat} {q0 : PR β} (h0 : SP W b A N c toks o0 q0) (h : SP X b A N c toks o q) (v0 v1 v2 v3 : Value) : SP (fin4 X W.heap.size v0 v1 v2 v3) b A N c toks o q :=
  h0.keepN h fun k hk => fin4_other _ _ _ _ _ _ _ (by omega)
/-- A method that fails is in the bad mode. -/
theorem SP.bad (h : SP W b A N c toks o (q.bind fun _ r => (PR.bad r 20 : PR α))) : ∃ a bd pl, SB W b A N c toks a o bd pl ∧ bd ≠ 0 := by
  obtain ⟨_, a, bd, pl, hs, (⟨x, hq, _⟩ | ⟨_, h1, _⟩)⟩ := h.any
  · cases q <;> cases hq
  · exact ⟨a, bd, pl, hs, h1⟩
def tokB (k : Int) (q : PR α) : PR (α × Tk) := q.bind fun x r => (tokP k r).bind fun t r => .ok (x, t) r
def tk0 : Tk := ⟨0, 0, [], 0⟩
theorem ret4_tok (t : Tk) (kd at_ nm : Int) (S : ByteArray) (h1 : kd = t.kd) (h2 : at_ = t.at_) (h3 : S = bs t.tx) (h4 : nm = t.nm) : Ending.returned (.agg #[.int .i64 kd, .int .i64 at_, .string S, .int .i64 nm]) = .returned (.agg #[.int .i64 t.kd, .int .i64 t.at_, .string (bs t.tx), .int .i64 t.nm]) := by rw [h1, h2, h3, h4]
def TkPost (k : Int) (W : World) (b : Nat) (A : Option Addr) (N c : Nat) (toks : List Tk) (o : Nat) (q : PR α) (e : Ending) (W' : World) : Prop :=
  ∃ t : Tk, e = .returned (.agg #[.int .i64 t.kd, .int .i64 t.at_, .string (bs t.tx), .int .i64 t.nm]) ∧ SP W' b A N c toks o (tokB k q) ∧ Mv b W W' ∧ ∀ x t' r, tokB k q = .ok (x, t') r → t = t'
set_option maxHeartbeats 2000000 in
set_option maxRecDepth 100000 in
theorem rtoken_any (h : SP W b A N c toks o q) (k : Int) (hk0 : k ≠ 0) : Calls Tryz.prog 84 #[.pointer (some ⟨b, 0, none⟩), .int .i64 k] W (TkPost k W b A N c toks o q) := by
  have HH := Lib.hid h
  obtain ⟨ho, a, bd, pl, hs, hmode⟩ := h.any
  have HS := Lib.hid hs
  have HMD := Lib.hid hmode
  obtain ⟨g, off, t, rfl, hg, _, _, h4, _, k0, k1, k2, k3⟩ := hs.tk
  have HT := Lib.hid h4
  have hlt := hs.lt
  obtain ⟨S, hS⟩ : ∃ S, S = bs t.tx := ⟨_, rfl⟩
  rw [← hS] at k2
  have HSS := Lib.hid hS
  have HX := Lib.hid ((Ext.refl W).alloc (.cells #[.int .i64 0, .int .i64 0, .string ⟨#[]⟩, .int .i64 0] 46))
  have c0 := (hs.ext HX.out).c0
  have c1 := (hs.ext HX.out).c1
  have e0 := (HX.out.cells.1 g (off + a * 4) hg).trans k0
  have e1 := (HX.out.cells.1 g (off + a * 4 + 1) hg).trans k1
  have e2 := (HX.out.cells.1 g (off + a * 4 + 2) hg).trans k2
  have e3 := (HX.out.cells.1 g (off + a * 4 + 3) hg).trans k3
  have haI : (a : Int) < (N : Int) := by have := hs.at_; omega
  have haJ : (a : Int) ≤ 100000 := by have := hs.nb; have := hs.at_; omega
  obtain ⟨kd, hkd⟩ : ∃ z, z = t.kd := ⟨_, rfl⟩
  obtain ⟨at_, hat⟩ : ∃ z, z = t.at_ := ⟨_, rfl⟩
  obtain ⟨nm, hnm⟩ : ∃ z, z = t.nm := ⟨_, rfl⟩
  rw [← hkd] at e0
  rw [← hat] at e1
  rw [← hnm] at e3
  have HK := Lib.hid (And.intro hkd (And.intro hat hnm))
  clear h hs hmode h4 k0 k1 k2 k3 hS hkd hat hnm
  go_enter Tryz.func84, Tryz.ntmps84
  go_upto_region 1 with (fail)
  have hlt1 : b < (W.alloc (.cells #[.int .i64 0, .int .i64 0, .string ⟨#[]⟩, .int .i64 0] 46)).heap.size := by simp; omega
  have hg1 : g < (W.alloc (.cells #[.int .i64 0, .int .i64 0, .string ⟨#[]⟩, .int .i64 0] 46)).heap.size := Nat.lt_of_lt_of_le hg HX.out.lt
  have q4 : TX (W.alloc (.cells #[.int .i64 0, .int .i64 0, .string ⟨#[]⟩, .int .i64 0] 46)) W.heap.size 0 0 ⟨#[]⟩ 0 := heap_alloc_new _ _
  have hwz : W.heap.size + 1 = (W.alloc (.cells #[.int .i64 0, .int .i64 0, .string ⟨#[]⟩, .int .i64 0] 46)).heap.size := by simp
  generalize W.alloc (.cells #[.int .i64 0, .int .i64 0, .string ⟨#[]⟩, .int .i64 0] 46) = w1 at *
  obtain ⟨g4, hg5⟩ : ∃ g4, g4 = W.heap.size := ⟨_, rfl⟩
  have HG4 := Lib.hid hg5
  rw [← hg5] at q4 hwz ⊢
  rw [← hg5] at hlt hg
  clear hg5
  go_cut [5] (fun s5 wx => s5 = .pointer (some ⟨w1.heap.size, 0, none⟩) ∧ wx = w1.drew.alloc (.cells #[.int .i64 kd, .int .i64 at_, .string S, .int .i64 nm] 46))
  case first =>
    clear hwz q4
    go_region
    all_goals
      go_wp2
      go_meet
      case rel => exact ⟨rfl, rfl⟩
  case rest =>
  obtain ⟨rfl, hwc⟩ := hcut
  have hx5 : Ext w1 wc := by rw [hwc]; exact (Ext.refl _).drew.alloc _
  have q5 : TX wc w1.heap.size kd at_ S nm := by rw [hwc]; exact heap_alloc_new w1.drew _
  have Q4 := Lib.hid (q4.mv (Mv.of_ext (b := b) hx5) (by omega))
  have Q5 := Lib.hid q5
  have HP5 := Lib.hid ((HH.out.ext HX.out).ext hx5)
  have HS5 := Lib.hid ((HS.out.ext HX.out).ext hx5)
  have HM5 := Lib.hid (Mv.of_ext (b := b) (HX.out.trans hx5))
  have hne5 : ¬ b = w1.heap.size := by omega
  have hne45 : ¬ g4 = w1.heap.size := by omega
  have hne4 : ¬ b = g4 := by omega
  clear q4 q5 hwc hx5 c0 c1 e0 e1 e2 e3 hlt1 hg1 HX hwz
  generalize w1.heap.size = g5 at *
  obtain ⟨l4, a0, a1, a2, a3, b0, b1, b2, b3⟩ := Q4.out.cs
  obtain ⟨l5, d0, d1, d2, d3, _, _, _, _⟩ := Q5.out.cs
  by_cases hk : kd = k
  · have tk : (kd != k) = false := by rw [bne_eq_false_iff_eq]; exact hk
    have HKE := Lib.hid hk
    obtain ⟨x, hq, hbd, hpl, ho2⟩ | ⟨hq, hbd, hpl⟩ := HMD.out
    · subst hbd hpl
      have c1 := HS5.out.c1
      have c3 := HS5.out.c3
      have f1 := HS5.out.fz 1
      have l5b := HS5.out.lt
      have HQ := Lib.hid hq
      clear hk hq
      go_wp2
      refine bodyPost_ret (v := .agg #[.int .i64 kd, .int .i64 at_, .string S, .int .i64 nm]) (by simp [results, Tryz.results84, go_sem, *]) rfl ?_
      have hx : tokB k q = .ok (x, t) (toks.drop (a + 1)) := by
        rw [HQ.out, tokB, PR.bind_ok, tokP, HT.out, if_pos (by rw [← HK.out.1]; exact HKE.out), PR.bind_ok, HS.out.hd_mem.2.2]
      have hgo : a + 1 < N := HS.out.go (by rw [HT.out, ← HK.out.1, HKE.out]; exact hk0)
      have hst : SP (wc.setCell ⟨b, 1, none⟩ (.int .i64 ((a : Int) + 1))) b (some ⟨g, off, none⟩) N c toks o (tokB k q) := by
        rw [hx]
        have := HS5.out.set1 (a + 1) hgo
        rw [show (((a + 1 : Nat) : Int)) = (a : Int) + 1 by omega] at this
        exact ⟨ho2, a + 1, rfl, this⟩
      refine ⟨t, ret4_tok t _ _ _ _ HK.out.1 HK.out.2.1 HSS.out HK.out.2.2, ?_, ?_, fun x' t' r' he => by rw [hx] at he; injection he with he _; injection he⟩
      · rw [HG4.out]; exact HH.out.fin hst _ _ _ _
      · rw [HG4.out]; exact (HM5.out.trans (Mv.set _)).fin _ _ _ _
    · have c3 := HS5.out.c3
      have t3 : (bd != 0) = true := by rw [bne_iff_ne]; exact hbd
      have l5b := HS5.out.lt
      have hx : tokB k q = .bad (toks.drop a) bd := by rw [hq, tokB, PR.bind_bad]
      have hst : SP wc b (some ⟨g, off, none⟩) N c toks o (tokB k q) := by
        rw [hx]
        exact ⟨ho, hbd, a, rfl, by rw [← hpl]; exact HS5.out⟩
      have HX2 := Lib.hid hx
      have HST := Lib.hid hst
      clear hk hbd hpl hq hx hst
      go_wp2
      refine bodyPost_ret (v := .agg #[.int .i64 0, .int .i64 0, .string ⟨#[]⟩, .int .i64 0]) (by simp [results, Tryz.results84, go_sem, *]) rfl ?_
      refine ⟨tk0, rfl, ?_, ?_, fun x' t' r' he => by rw [HX2.out] at he; cases he⟩
      · rw [HG4.out]; exact HH.out.fin HST.out _ _ _ _
      · rw [HG4.out]; exact HM5.out.fin _ _ _ _
  · have tk : (kd != k) = true := by rw [bne_iff_ne]; exact hk
    have HX2 := Lib.hid (show tokB k q = q.bind fun _ r => PR.bad r 20 by
      obtain ⟨x, hq, _⟩ | ⟨hq, _⟩ := HMD.out
      · rw [hq, tokB, PR.bind_ok, tokP, HT.out, if_neg (by rw [← HK.out.1]; exact hk), PR.bind_bad]; rfl
      · rw [hq, tokB, PR.bind_bad]; rfl)
    have HNO := Lib.hid (show ∀ x' t' r', tokB k q ≠ .ok (x', t') r' from fun x' t' r' he => by rw [HX2.out] at he; cases q <;> cases he)
    clear hk
    go_wp2_with fail
    refine (rfail_any HP5.out 20 (by decide)).mono ?_
    rintro e w6 ⟨rfl, hp6, hm6⟩
    have HP6 := Lib.hid hp6
    have HM6 := Lib.hid (HM5.out.trans hm6)
    have Q46 := Lib.hid (Q4.out.mv hm6 (fun e => hne4 e.symm))
    obtain ⟨a9, bd9, pl9, hs9, hb9⟩ := hp6.bad
    have c3 := hs9.c3
    have t3 : (bd9 != 0) = true := by rw [bne_iff_ne]; exact hb9
    have l6b := hs9.lt
    clear l4 a0 a1 a2 a3 b0 b1 b2 b3 l5 d0 d1 d2 d3 hp6 hm6 hs9 hb9
    obtain ⟨l4, a0, a1, a2, a3, b0, b1, b2, b3⟩ := Q46.out.cs
    go_wp2
    refine bodyPost_ret (v := .agg #[.int .i64 0, .int .i64 0, .string ⟨#[]⟩, .int .i64 0]) (by simp [results, Tryz.results84, go_sem, *]) rfl ?_
    refine ⟨tk0, rfl, ?_, ?_, fun x' t' r' he => absurd he (HNO.out x' t' r')⟩
    · rw [HG4.out]
      refine HH.out.fin ?_ _ _ _ _
      have h9 := HP6.out
      obtain ⟨x, hq, _⟩ | ⟨hq, hb, _⟩ := HMD.out
      · rw [HX2.out]; rw [hq] at h9 ⊢; exact h9
      · rw [HX2.out]; rw [hq] at h9 ⊢; exact h9
    · rw [HG4.out]; exact HM6.out.fin _ _ _ _
def nameB (q : PR α) : PR (α × List UInt8) := q.bind fun x r => (nameP r).bind fun t r => .ok (x, t) r
def NmPost (W : World) (b : Nat) (A : Option Addr) (N c : Nat) (toks : List Tk) (o : Nat) (q : PR α) (e : Ending) (W' : World) : Prop :=
  ∃ s : List UInt8, e = .returned (.string (bs s)) ∧ SP W' b A N c toks o (nameB q) ∧ Mv b W W' ∧ ∀ x t' r, nameB q = .ok (x, t') r → s = t'
set_option maxHeartbeats 2000000 in
set_option maxRecDepth 100000 in
theorem rname_any (h : SP W b A N c toks o q) : Calls Tryz.prog 83 #[.pointer (some ⟨b, 0, none⟩)] W (NmPost W b A N c toks o q) := by
  have HH := Lib.hid h
  obtain ⟨ho, a, bd, pl, hs, hmode⟩ := h.any
  have HMD := Lib.hid hmode
  obtain ⟨g, off, t, rfl, hg, _, _, h4, _, k0, k1, k2, k3⟩ := hs.tk
  have HT := Lib.hid h4
  obtain ⟨S, hS⟩ : ∃ S, S = bs t.tx := ⟨_, rfl⟩
  rw [← hS] at k2
  have HR := Lib.hid (fun X => rres_any t.tx S hS X)
  have c0 := hs.c0
  have c1 := hs.c1
  have haI : (a : Int) < (N : Int) := by have := hs.at_; omega
  have hfd := fieldTx
  obtain ⟨v, hv⟩ : ∃ v, v = decide (t.tx ∈ reserved) := ⟨_, rfl⟩
  rw [← hv] at HR
  have HV := Lib.hid hv
  have HQ := Lib.hid (fun X (hX : Ext W X) => (show X.cell? ⟨b, 0, none⟩ = some (.slice (some ⟨g, off, none⟩) N c) ∧ X.cell? ⟨b, 1, none⟩ = some (.int .i64 a) ∧ X.cell? ⟨g, off + a * 4 + 2, none⟩ = some (.string S) from ⟨cells_ext c0 hX, cells_ext c1 hX, cells_ext k2 hX⟩))
  clear h hs hmode h4 hS hv k0 k1 k3
  cases v with
  | true =>
    have HX2 := Lib.hid (show nameB q = q.bind fun _ r => PR.bad r 20 by
      obtain ⟨x, hq, _⟩ | ⟨hq, _⟩ := HMD.out
      · rw [hq, nameB, PR.bind_ok, nameP, HT.out, if_pos (of_decide_eq_true HV.out.symm), PR.bind_bad]; rfl
      · rw [hq, nameB, PR.bind_bad]; rfl)
    go_enter Tryz.func83, Tryz.ntmps83
    go_upto_region 1 with (fail)
    have hcur : Ext W W.drew := (Ext.refl _).drew
    go_region_held3 (fun X => X.cell? ⟨b, 0, none⟩ = some (.slice (some ⟨g, off, none⟩) N c) ∧ X.cell? ⟨b, 1, none⟩ = some (.int .i64 a) ∧ X.cell? ⟨g, off + a * 4 + 2, none⟩ = some (.string S)) (first | exact HQ.out _ hcur | go_keep)
      (first | (go_at_call 126; refine (HR.out _).mono ?_; rintro e w1 ⟨rfl, hx⟩; have hcur := hcur.trans hx; clear hx))
    clear k2 c0 c1
    go_wp2_with fail
    refine (rfail_any (HH.out.ext hcur) 20 (by decide)).mono ?_
    rintro e w2 ⟨rfl, hp2, hm2⟩
    have HM2 := Lib.hid ((Mv.of_ext hcur).trans hm2)
    have HT2 := Lib.hid (rtoken_any hp2 1 (by decide))
    clear hp2 hm2
    go_wp2_with fail
    refine (HT2.out).mono ?_
    rintro e w3 ⟨t3, rfl, hp3, hm3, _⟩
    have HP3 := Lib.hid hp3
    have HM3 := Lib.hid (HM2.out.trans hm3)
    clear hp3 hm3
    go_wp2
    go_ret
    refine ⟨t3.tx, rfl, ?_, HM3.out, fun x' t' r' he => by rw [HX2.out] at he; cases q <;> cases he⟩
    have h9 := HP3.out
    rw [HX2.out]
    cases q with
    | ok x r => exact h9
    | bad r e => exact h9
  | false =>
    have HX2 := Lib.hid (show nameB q = (tokB 1 q).bind fun x r => .ok (x.1, x.2.tx) r by
      obtain ⟨x, hq, _⟩ | ⟨hq, _⟩ := HMD.out
      · rw [hq, nameB, tokB, PR.bind_ok, PR.bind_ok, nameP, HT.out, if_neg (of_decide_eq_false HV.out.symm)]
        cases tokP 1 (toks.drop a) <;> rfl
      · rw [hq]; rfl)
    go_enter Tryz.func83, Tryz.ntmps83
    go_upto_region 1 with (fail)
    have hcur : Ext W W.drew := (Ext.refl _).drew
    go_region_held3 (fun X => X.cell? ⟨b, 0, none⟩ = some (.slice (some ⟨g, off, none⟩) N c) ∧ X.cell? ⟨b, 1, none⟩ = some (.int .i64 a) ∧ X.cell? ⟨g, off + a * 4 + 2, none⟩ = some (.string S)) (first | exact HQ.out _ hcur | go_keep)
      (first | (go_at_call 126; refine (HR.out _).mono ?_; rintro e w1 ⟨rfl, hx⟩; have hcur := hcur.trans hx; clear hx))
    clear k2 c0 c1
    have HT2 := Lib.hid (rtoken_any (HH.out.ext hcur) 1 (by decide))
    go_wp2_with fail
    refine (HT2.out).mono ?_
    rintro e w3 ⟨t3, rfl, hp3, hm3, hv3⟩
    have HP3 := Lib.hid hp3
    have HV3 := Lib.hid hv3
    have HM3 := Lib.hid ((Mv.of_ext hcur).trans hm3)
    clear hp3 hm3 hv3
    go_wp2
    go_ret
    refine ⟨t3.tx, rfl, ?_, HM3.out, fun x' t' r' he => ?_⟩
    · rw [HX2.out]; exact HP3.out.map _
    · rw [HX2.out] at he
      obtain ⟨y, r1, h1, h2⟩ := PR.bind_inv he
      obtain ⟨h3, rfl⟩ := PR.ok_inj h2
      injection h3 with h5 h6
      rw [← h6, HV3.out y.1 y.2 r1 h1]
end
end Go.Proofs.YtnpenepdechkjaaGreatDoor
