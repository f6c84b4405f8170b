/- The reference's operator, joined. -/
import Derived.Test.YtnpenepdechkjaaGreatDoorMi
import Derived.Test.YtnpenepdechkjaaGreatDoorMf
namespace Go.Proofs.YtnpenepdechkjaaGreatDoor
open Go Go.RowKit

theorem operators6_any (W : World) : Calls Tryz.prog 134 #[.int .i64 6] W (fun e W' => ∃ g : Nat, e = .returned (.slice (some ⟨g, 0, none⟩) (opsL 6).length (opsL 6).length) ∧ SR W' g (opsL 6) ∧ Ext W W') := by
  have hsr := SR.new W (opsL 6) #[.string ⟨#[42]⟩] rfl
  have HSR := Lib.hid hsr
  clear hsr
  go_enter Tryz.func134, Tryz.ntmps134
  go_wp2
  go_ret
  exact ⟨_, rfl, HSR.out, (Ext.refl _).alloc _⟩
theorem ops_iff2 : ∀ s ∈ opl, ∀ i ∈ [1, 2, 4, 5, 6], decide (s ∈ opsL i) = decide (lvOf s = i) := by decide
theorem ops_opl : ∀ i ∈ [1, 2, 4, 5, 6], ∀ s ∈ opsL i, s ∈ opl := by decide
theorem ops_ne : ∀ i ∈ [1, 2, 4, 5, 6], ∀ s ∈ opsL i, s ≠ [] := by decide
theorem ops_lv {s : List UInt8} {i : Nat} (hi : i ∈ [1, 2, 4, 5, 6]) : s ∈ opsL i ↔ lvOf s = i := by
  constructor
  · intro h; have := ops_iff2 s (ops_opl i hi s h) i hi; rw [decide_eq_true h] at this; exact of_decide_eq_true this.symm
  · intro h
    have h1 : 1 ≤ lvOf s := by rw [h]; exact (by decide : ∀ i ∈ [1, 2, 4, 5, 6], 1 ≤ i) i hi
    have := ops_iff2 s (lv_mem h1) i hi; rw [decide_eq_true h] at this; exact of_decide_eq_true this
section
variable {α : Type} {W W' X : World} {b : Nat} {A : Option Addr} {N c : Nat} {toks : List Tk} {o : Nat} {q : PR α}
def opV (lv : Nat) : PR α → List UInt8
  | .ok _ r => if lvOf (hd r).tx = lv then (hd r).tx else []
  | .bad _ _ => []
def opS (lv : Nat) : PR α → PR α
  | .ok x r => if lvOf (hd r).tx = lv then .ok x r.tail else .ok x r
  | .bad r e => .bad r e
theorem op_at {lv : Nat} (hi : lv ∈ [1, 2, 4, 5, 6]) {s : List UInt8} (hs : s ∈ opsL lv) (h : isP s q = true) : opV lv q = s ∧ opS lv q = takeP s q := by
  cases q with
  | bad r e => cases h
  | ok x r =>
    have hx : (hd r).tx = s := by simpa [isP] using h
    have hl := (ops_lv hi).1 hs
    simp only [opV, opS, takeP, hx]
    exact ⟨if_pos hl, by simp [hl]⟩
theorem op_none {lv : Nat} (hi : lv ∈ [1, 2, 4, 5, 6]) (h : ∀ s ∈ opsL lv, isP s q = false) : opV lv q = [] ∧ opS lv q = q := by
  cases q with
  | bad r e => exact ⟨rfl, rfl⟩
  | ok x r =>
    have hl : lvOf (hd r).tx ≠ lv := fun e => by
      have := h _ ((ops_lv hi).2 e)
      simp [isP] at this
    simp only [opV, opS]
    exact ⟨if_neg hl, if_neg hl⟩
theorem take_no {s : List UInt8} (h : isP s q = false) : takeP s q = q := by
  cases q with
  | bad r e => rfl
  | ok x r => rw [takeP, if_neg]; simpa [isP] using h
def OpRel (W : World) (b : Nat) (A : Option Addr) (N c : Nat) (toks : List Tk) (o : Nat) (q : PR α) (g : Nat) (ss : List (List UInt8)) (s6 : Value) (X : World) : Prop :=
  ∃ j : Nat, j ≤ ss.length ∧ s6 = .int .i64 j ∧ (∀ s ∈ ss.take j, isP s q = false) ∧ SP X b A N c toks o q ∧ SR X g ss ∧ Mv b W X
set_option maxHeartbeats 2000000 in
set_option maxRecDepth 100000 in
theorem roper_any (h : SP W b A N c toks o q) (lv : Nat) (hi : lv ∈ [1, 2, 4, 5, 6]) :
    Calls Tryz.prog 91 #[.pointer (some ⟨b, 0, none⟩), .int .i64 (lv : Nat)] W (fun e W' => e = .returned (.string (bs (opV lv q))) ∧ SP W' b A N c toks o (opS lv q) ∧ Mv b W W') := by
  have HH := Lib.hid h
  have HOP := Lib.hid (show Calls Tryz.prog 134 #[.int .i64 (lv : Nat)] W (fun e W' => ∃ g : Nat, e = .returned (.slice (some ⟨g, 0, none⟩) (opsL lv).length (opsL lv).length) ∧ SR W' g (opsL lv) ∧ Ext W W') from by
    by_cases h6 : lv = 6
    · rw [h6]; exact operators6_any W
    · exact operators_any lv (by simp only [List.mem_cons, List.not_mem_nil, or_false] at hi; omega) W)
  have HI := Lib.hid hi
  obtain ⟨ss, hss⟩ : ∃ ss, ss = opsL lv := ⟨_, rfl⟩
  rw [← hss] at HOP
  have HSS := Lib.hid hss
  have hl6 : ss.length ≤ 6 := by rw [hss]; exact (by decide : ∀ i ∈ [1, 2, 4, 5, 6], (opsL i).length ≤ 6) lv hi
  have hl1 : 1 ≤ ss.length := by rw [hss]; exact (by decide : ∀ i ∈ [1, 2, 4, 5, 6], 1 ≤ (opsL i).length) lv hi
  clear h hi hss
  go_enter Tryz.func91, Tryz.ntmps91
  go_wp2_with fail
  refine (HOP.out).mono ?_
  rintro e w1 ⟨g, rfl, hsr, hx1⟩
  have hgb : g ≠ b := fun e => by
    subst e
    obtain ⟨_, a, bd, pl, hs, _⟩ := (HH.out.ext hx1).any
    obtain ⟨s0, hs0⟩ : ∃ s, ss[0]? = some s := ⟨_, List.getElem?_eq_getElem hl1⟩
    have h1 := hsr.at_ 0 s0 hs0
    rw [hs.c0] at h1
    cases h1
  have HST := Lib.hid (show OpRel W b A N c toks o q g ss (.int .i64 0) w1 from ⟨0, Nat.zero_le _, rfl, by simp, HH.out.ext hx1, hsr, Mv.of_ext hx1⟩)
  clear hsr hx1 HOP
  go_wp2_with fail
  go_loopw [6] (fun s6 X => OpRel W b A N c toks o q g ss s6 X) (fun s6 _ => toM ss.length s6)
  case atStart => exact HST.out
  case round =>
    clear HST
    obtain ⟨j, hj, rfl, hno, hsp, hsr, hmv⟩ := hrel
    have HNO := Lib.hid hno
    have HSP := Lib.hid hsp
    have HSR := Lib.hid hsr
    have HMV := Lib.hid hmv
    have hgl := hsr.lt
    clear hno hsp hsr hmv
    by_cases hlt : j < ss.length
    case neg =>
      have hni : ¬ (j : Int) < (ss.length : Int) := by omega
      have HF := Lib.hid (op_none HI.out (q := q) (by
        intro s hs
        refine HNO.out s ?_
        rw [← HSS.out] at hs
        rw [List.take_of_length_le (by omega)]; exact hs))
      clear hlt
      go_wp2
      go_ret
      exact ⟨congrArg (fun z => Ending.returned (.string (bs z))) HF.out.1.symm, by rw [HF.out.2]; exact HSP.out, HMV.out⟩
    have hI : (j : Int) < (ss.length : Int) := by omega
    obtain ⟨x, hx⟩ : ∃ x, ss[j]? = some x := ⟨_, List.getElem?_eq_getElem hlt⟩
    have HYtnpenepdechkjaaGreatDoor := Lib.hid hx
    have hxm : x ∈ opsL lv := by rw [← HSS.out]; exact List.mem_of_getElem? hx
    obtain ⟨Z, hZ⟩ : ∃ Z, Z = bs x := ⟨_, rfl⟩
    have q0 := HSR.out.at_ j x hx
    rw [← hZ] at q0
    have HZ := Lib.hid hZ
    have HT := Lib.hid (rtake_any HSP.out x Z hZ (ops_ne lv HI.out x hxm))
    have HXM := Lib.hid hxm
    clear hx hxm hZ
    cases hv : isP x q with
    | true =>
      rw [hv] at HT
      have HF := Lib.hid (op_at HI.out HXM.out hv)
      clear hv
      go_upto_region 6 with (first | (go_at_call 85; refine (HT.out).mono ?_; rintro e w2 ⟨rfl, hp2, hm2⟩))
      have HP2 := Lib.hid hp2
      have HM2 := Lib.hid hm2
      have hsr2 := HSR.out.mv hm2 hgb
      have q1 := hsr2.at_ j x HYtnpenepdechkjaaGreatDoor.out
      rw [← HZ.out] at q1
      have hgl2 := hsr2.lt
      clear hp2 hm2 hsr2 q0 hgl
      go_wp2
      go_ret
      exact ⟨congrArg (fun z => Ending.returned (.string z)) (HZ.out.trans (congrArg bs HF.out.1.symm)), by rw [HF.out.2]; exact HP2.out, HMV.out.trans HM2.out⟩
    | false =>
      rw [hv] at HT
      have HV := Lib.hid hv
      rw [take_no hv] at HT
      clear hv
      go_wp2_with (first | (go_at_call 85; refine (HT.out).mono ?_; rintro e w2 ⟨rfl, hp2, hm2⟩))
      refine ⟨⟨j + 1, by omega, by simp, fun s hs => ?_, hp2, HSR.out.mv hm2 hgb, HMV.out.trans hm2⟩, by simp only [toM]; omega⟩
      rw [List.take_add_one, HYtnpenepdechkjaaGreatDoor.out] at hs
      rcases List.mem_append.1 hs with h1 | h1
      · exact HNO.out s h1
      · obtain rfl : s = x := by simpa using h1
        exact HV.out
theorem Rep.finG {X : World} {P : Nat → Prop} {g : Nat} {d : Nd} {t : Tr} (h : Rep X (fun k => P k ∧ k ≠ g) d t) (v0 v1 v2 v3 : Value) : Rep (fin4 X g v0 v1 v2 v3) P d t :=
  (h.keep (W' := fin4 X g v0 v1 v2 v3) (by simp [fin4]) (fun k hk _ => fin4_other _ _ _ _ _ _ _ hk.2)).mono fun k hk _ => hk.1
/-- A node whose kids' row has just been made. -/
theorem Rep.row (X : World) (P : Nat → Prop) (k n : Int) (s : List UInt8) (ds : List Nd) (ts : List Tr) (cs : Array Value) (hcs : cs.toList = gcells ndcf ds) (hl : ds.length = ts.length) (hP : P X.heap.size)
    (hd : ∀ (i : Nat) (d : Nd) (t : Tr), ds[i]? = some d → ts[i]? = some t → Rep X P d t) : Rep (X.alloc (.cells cs 31)) P ⟨k, n, bs s, some ⟨X.heap.size, 0, none⟩, ds.length, ds.length⟩ (.nd k n s ts) :=
  .mk k n s _ _ ds ts (fun x hx => by injection hx with hx; subst hx; exact ⟨hP, by simp⟩) (SL.new ndcf_len X ds cs hcs 31) hl fun i d t h1 h2 => (hd i d t h1 h2).ext ((Ext.refl X).alloc _)
/-- The same behind the stores into the result's block. -/
theorem Rep.rowfin (X : World) (P : Nat → Prop) (g : Nat) (v0 v1 v2 v3 : Value) (k n : Int) (s : List UInt8) (ds : List Nd) (ts : List Tr) (cs : Array Value) (hcs : cs.toList = gcells ndcf ds) (hl : ds.length = ts.length) (hP : P X.heap.size)
    (hd : ∀ (i : Nat) (d : Nd) (t : Tr), ds[i]? = some d → ts[i]? = some t → Rep X (fun j => P j ∧ j ≠ g) d t) : Rep ((fin4 X g v0 v1 v2 v3).alloc (.cells cs 31)) P ⟨k, n, bs s, some ⟨X.heap.size, 0, none⟩, ds.length, ds.length⟩ (.nd k n s ts) := by
  have h := Rep.row (fin4 X g v0 v1 v2 v3) P k n s ds ts cs hcs hl (by rw [fin4_size]; exact hP) (fun i d t h1 h2 => Rep.finG (hd i d t h1 h2) v0 v1 v2 v3)
  rw [fin4_size] at h; exact h
theorem kids1 {X : World} {P : Nat → Prop} {d : Nd} {t : Tr} (h : Rep X P d t) : ∀ (i : Nat) (d' : Nd) (t' : Tr), [d][i]? = some d' → [t][i]? = some t' → Rep X P d' t' := fun i d' t' h1 h2 => by
  have hi : i < 1 := (List.getElem?_eq_some_iff.1 h1).1
  obtain rfl : i = 0 := by omega
  simp only [List.getElem?_cons_zero, Option.some.injEq] at h1 h2
  subst h1 h2; exact h
theorem kids2 {X : World} {P : Nat → Prop} {d e : Nd} {t u : Tr} (h : Rep X P d t) (h' : Rep X P e u) : ∀ (i : Nat) (d' : Nd) (t' : Tr), [d, e][i]? = some d' → [t, u][i]? = some t' → Rep X P d' t' := fun i d' t' h1 h2 => by
  rcases i with _ | i
  · simp only [List.getElem?_cons_zero, Option.some.injEq] at h1 h2
    subst h1 h2; exact h
  · exact kids1 h' i d' t' (by simpa using h1) (by simpa using h2)
theorem kids3 {X : World} {P : Nat → Prop} {d e f : Nd} {t u v : Tr} (h : Rep X P d t) (h' : Rep X P e u) (h'' : Rep X P f v) : ∀ (i : Nat) (d' : Nd) (t' : Tr), [d, e, f][i]? = some d' → [t, u, v][i]? = some t' → Rep X P d' t' := fun i d' t' h1 h2 => by
  rcases i with _ | i
  · simp only [List.getElem?_cons_zero, Option.some.injEq] at h1 h2
    subst h1 h2; exact h
  · exact kids2 h' h'' i d' t' (by simpa using h1) (by simpa using h2)
def jnB (lv : Nat) (op : List UInt8) (ta tb : Tr) (q : PR α) : PR (α × Tr) := q.bind fun x r => .ok (x, (joinP lv op ta tb r).1) (joinP lv op ta tb r).2
def JnPost (lv : Nat) (op : List UInt8) (ta tb : Tr) (P : Nat → Prop) (W : World) (b : Nat) (A : Option Addr) (N c : Nat) (toks : List Tk) (o : Nat) (q : PR α) (e : Ending) (W' : World) : Prop :=
  ∃ (d : Nd) (t : Tr), e = .returned (.agg #[.int .i64 d.k, .int .i64 d.n, .string d.s, .slice d.A d.m d.c]) ∧ Rep W' P d t ∧ SP W' b A N c toks o (jnB lv op ta tb q) ∧ Mv b W W' ∧ ∀ x t' r, jnB lv op ta tb q = .ok (x, t') r → t = t'
set_option maxHeartbeats 4000000 in
set_option maxRecDepth 100000 in
theorem rjoined_any (h : SP W b A N c toks o q) (lv : Nat) (op : List UInt8) (S : ByteArray) (hS : S = bs op) (da db : Nd) (ta tb : Tr) (P : Nat → Prop) (hP : ∀ k, W.heap.size ≤ k → P k) (hPb : ¬ P b) (ha : Rep W P da ta) (hb : Rep W P db tb) (hop : lv = 5 → op = wPlus ∨ op = wMinus) :
    Calls Tryz.prog 92 #[.pointer (some ⟨b, 0, none⟩), .string S, .int .i64 (lv : Nat), .agg #[.int .i64 da.k, .int .i64 da.n, .string da.s, .slice da.A da.m da.c], .agg #[.int .i64 db.k, .int .i64 db.n, .string db.s, .slice db.A db.m db.c]] W (JnPost lv op ta tb P W b A N c toks o q) := by
  have HH := Lib.hid h
  have HS := Lib.hid hS
  have HA := Lib.hid ha
  have HB := Lib.hid hb
  have HP := Lib.hid hP
  have HPB := Lib.hid hPb
  have HOP := Lib.hid hop
  obtain ⟨ho, a, bd, pl, hs, hmode⟩ := h.any
  have HMD := Lib.hid hmode
  have HSB := Lib.hid hs
  have hbl := hs.lt
  obtain ⟨u1, hu1⟩ : ∃ u, u = W.alloc (.cells #[.int .i64 da.k, .int .i64 da.n, .string da.s, .slice da.A da.m da.c] 31) := ⟨_, rfl⟩
  obtain ⟨u2, hu2⟩ : ∃ u, u = u1.alloc (.cells #[.int .i64 db.k, .int .i64 db.n, .string db.s, .slice db.A db.m db.c] 31) := ⟨_, rfl⟩
  obtain ⟨u3, hu3⟩ : ∃ u, u = u2.alloc (.cells #[.int .i64 0, .int .i64 0, .string ⟨#[]⟩, .slice none 0 0] 31) := ⟨_, rfl⟩
  have hx1 : Ext W u1 := by rw [hu1]; exact (Ext.refl _).alloc _
  have hx2 : Ext u1 u2 := by rw [hu2]; exact (Ext.refl _).alloc _
  have hx3 : Ext u2 u3 := by rw [hu3]; exact (Ext.refl _).alloc _
  have hz1 : u1.heap.size = W.heap.size + 1 := by rw [hu1]; simp
  have hz2 : u2.heap.size = W.heap.size + 1 + 1 := by rw [hu2]; simp [hz1]
  have hz3 : u3.heap.size = W.heap.size + 1 + 1 + 1 := by rw [hu3]; simp [hz2]
  have HX3 := Lib.hid ((hx1.trans hx2).trans hx3)
  have hn1 : NX u1 W.heap.size da.k da.n da.s (.slice da.A da.m da.c) := by rw [hu1]; exact heap_alloc_new _ _
  have hn2 : NX u2 (W.heap.size + 1) db.k db.n db.s (.slice db.A db.m db.c) := by rw [hu2, ← hz1]; exact heap_alloc_new _ _
  have hn3 : NX u3 (W.heap.size + 1 + 1) 0 0 ⟨#[]⟩ (.slice none 0 0) := by rw [hu3, ← hz2]; exact heap_alloc_new _ _
  have HN1 := Lib.hid (show NX u3 W.heap.size da.k da.n da.s (.slice da.A da.m da.c) from hn1.mv (Mv.of_ext (b := b) (hx2.trans hx3)) (by omega))
  have HN2 := Lib.hid (show NX u3 (W.heap.size + 1) db.k db.n db.s (.slice db.A db.m db.c) from hn2.mv (Mv.of_ext (b := b) hx3) (by omega))
  have HN3 := Lib.hid hn3
  have HZ3 := Lib.hid hz3
  obtain ⟨g, off, t, rfl, hg, _, _, h4, _, k0, k1, k2, k3⟩ := (hs.ext HX3.out).tk
  have c0 := (hs.ext HX3.out).c0
  have c1 := (hs.ext HX3.out).c1
  have haI : (a : Int) < (N : Int) := by have := hs.at_; omega
  have haJ : (a : Int) ≤ 100000 := by have := hs.nb; have := hs.at_; omega
  have HT := Lib.hid h4
  obtain ⟨T, hT⟩ : ∃ S, S = bs t.tx := ⟨_, rfl⟩
  rw [← hT] at k2
  have HU := Lib.hid (fun X => runit_any t.tx T hT X)
  have HTT := Lib.hid hT
  have hu : u3 = ((W.alloc (.cells #[.int .i64 da.k, .int .i64 da.n, .string da.s, .slice da.A da.m da.c] 31)).alloc (.cells #[.int .i64 db.k, .int .i64 db.n, .string db.s, .slice db.A db.m db.c] 31)).alloc (.cells #[.int .i64 0, .int .i64 0, .string ⟨#[]⟩, .slice none 0 0] 31) := by rw [hu3, hu2, hu1]
  clear h hS ha hb hP hPb hop hs hmode hx1 hx2 hx3 hz1 hz2 hz3 hn1 hn2 hn3 h4 k0 k1 k3 hT hu1 hu2 hu3 hg
  go_enter Tryz.func92, Tryz.ntmps92
  go_upto_region 1 with (fail)
  rw [← hu]
  clear hu
  go_cut [11] (fun s11 wx => s11 = .string T ∧ Ext u3 wx)
  case first =>
    go_quiet (fail)
    go_wp2
    go_meet
    case rel => exact ⟨rfl, (Ext.refl _).drewN _⟩
  case rest =>
  obtain ⟨rfl, hxc⟩ := hcut
  clear c0 c1 k2
  have HXC := Lib.hid (HX3.out.trans hxc)
  have HSC := Lib.hid (HSB.out.ext HXC.out)
  have HPC := Lib.hid (HH.out.ext HXC.out)
  have hwc : W.heap.size + 1 + 1 + 1 ≤ wc.heap.size := by have := hxc.lt; have := HZ3.out; omega
  have N1 := Lib.hid (HN1.out.mv (Mv.of_ext (b := b) hxc) (by omega))
  have N2 := Lib.hid (HN2.out.mv (Mv.of_ext (b := b) hxc) (by omega))
  have N3 := Lib.hid (HN3.out.mv (Mv.of_ext (b := b) hxc) (by omega))
  clear HN1 HN2 HN3 hxc HX3 HZ3
  -- the ending with a node of any kind
  have HEND := Lib.hid (fun (X : World) (hm : Mv b W X) (k : Int) (s : List UInt8) (Z : ByteArray) (hZ : Z = bs s) (hz : W.heap.size + 1 + 1 + 1 ≤ X.heap.size) => (show
      Rep ((fin4 X (W.heap.size + 1 + 1) (.int .i64 k) (.int .i64 0) (.string Z) (.slice (some ⟨X.heap.size, 0, none⟩) 2 2)).alloc (.cells #[.int .i64 da.k, .int .i64 da.n, .string da.s, .slice da.A da.m da.c, .int .i64 db.k, .int .i64 db.n, .string db.s, .slice db.A db.m db.c] 31)) P ⟨k, 0, Z, some ⟨X.heap.size, 0, none⟩, 2, 2⟩ (.nd k 0 s [ta, tb]) from by
    rw [hZ]
    refine Rep.rowfin X P (W.heap.size + 1 + 1) _ _ _ _ k 0 s [da, db] [ta, tb] _ rfl rfl (HP.out _ (by omega)) (kids2 ?_ ?_)
    · exact ((HA.out.mono (Q := fun j => P j ∧ j ≠ W.heap.size + 1 + 1) (fun j h1 h2 => ⟨h1, by omega⟩)).mv hm (fun j h1 e => HPB.out (e ▸ h1.1)))
    · exact ((HB.out.mono (Q := fun j => P j ∧ j ≠ W.heap.size + 1 + 1) (fun j h1 h2 => ⟨h1, by omega⟩)).mv hm (fun j h1 e => HPB.out (e ▸ h1.1)))))
  have HMV := Lib.hid (fun (X : World) (hm : Mv b W X) (v0 v1 v2 v3 : Value) (cs : Array Value) => (show Mv b W ((fin4 X (W.heap.size + 1 + 1) v0 v1 v2 v3).alloc (.cells cs 31)) from (hm.finG (by omega) _ _ _ _).trans (Mv.of_ext ((Ext.refl _).alloc _))))
  have HSPF := Lib.hid (fun (X : World) (β : Type) (q' : PR β) (hq : SP X b (some ⟨g, off, none⟩) N c toks o q') (v0 v1 v2 v3 : Value) (cs : Array Value) => (show SP ((fin4 X (W.heap.size + 1 + 1) v0 v1 v2 v3).alloc (.cells cs 31)) b (some ⟨g, off, none⟩) N c toks o q' from (HH.out.keepN hq fun k hk => fin4_other _ _ _ _ _ _ _ (by omega)).ext ((Ext.refl _).alloc _)))
  obtain ⟨y0, y1, y2, y3, y4, y5, y6, y7, y8⟩ := N1.out.nb
  obtain ⟨z0, z1, z2, z3, z4, z5, z6, z7, z8⟩ := N2.out.nb
  obtain ⟨x0, x1, x2, x3, x4, x5, x6, x7, x8⟩ := N3.out.nb
  by_cases h5 : lv = 5
  case neg =>
    have t5 : ((lv : Int) != 5) = true := by rw [bne_iff_ne]; omega
    have HJ := Lib.hid (fun r => (show joinP lv op ta tb r = (.nd 6 0 op [ta, tb], r) from by unfold joinP; rw [if_neg (fun e => h5 e.1)]))
    clear h5
    go_wp2
    refine bodyPost_ret (v := .agg #[.int .i64 6, .int .i64 0, .string S, .slice (some ⟨wc.heap.size, 0, none⟩) 2 2]) (by simp [results, Tryz.results92, go_sem, *]) rfl ?_
    refine ⟨⟨6, 0, S, some ⟨wc.heap.size, 0, none⟩, 2, 2⟩, .nd 6 0 op [ta, tb], rfl, HEND.out wc (Mv.of_ext HXC.out) 6 op S HS.out hwc, ?_, HMV.out wc (Mv.of_ext HXC.out) _ _ _ _ _, ?_⟩
    · refine HSPF.out wc _ _ ?_ _ _ _ _ _
      unfold jnB; simp only [HJ.out]; exact HPC.out.map _
    · intro x t' r he
      unfold jnB at he; simp only [HJ.out] at he
      obtain ⟨y, r1, _, h2⟩ := PR.bind_inv he
      obtain ⟨h3, _⟩ := PR.ok_inj h2
      injection h3 with _ h6
  have t5 : ((lv : Int) != 5) = false := by rw [bne_eq_false_iff_eq]; omega
  have HOP5 := Lib.hid (HOP.out h5)
  have H5 := Lib.hid h5
  clear h5
  have c3 := HSC.out.c3
  obtain ⟨x, hq, hbd, hpl, ho2⟩ | ⟨hq, hbd, hpl⟩ := HMD.out
  case inr =>
    have t3 : (bd != 0) = true := by rw [bne_iff_ne]; exact hbd
    have HQ := Lib.hid hq
    clear hq hbd hpl
    go_wp2
    refine bodyPost_ret (v := .agg #[.int .i64 6, .int .i64 0, .string S, .slice (some ⟨wc.heap.size, 0, none⟩) 2 2]) (by simp [results, Tryz.results92, go_sem, *]) rfl ?_
    refine ⟨⟨6, 0, S, some ⟨wc.heap.size, 0, none⟩, 2, 2⟩, .nd 6 0 op [ta, tb], rfl, HEND.out wc (Mv.of_ext HXC.out) 6 op S HS.out hwc, ?_, HMV.out wc (Mv.of_ext HXC.out) _ _ _ _ _, ?_⟩
    · refine HSPF.out wc _ _ ?_ _ _ _ _ _
      have := HPC.out
      rw [HQ.out] at this ⊢
      exact this
    · intro x t' r he
      rw [HQ.out] at he; cases he
  subst hbd
  have HQ := Lib.hid hq
  have HO2 := Lib.hid ho2
  have HPL := Lib.hid hpl
  clear hq hpl ho2
  by_cases hu : t.tx ∈ units
  case neg =>
    rw [decide_eq_false hu] at HU
    have HJ := Lib.hid (show joinP lv op ta tb (toks.drop a) = (.nd 6 0 op [ta, tb], toks.drop a) from by unfold joinP; rw [HT.out, if_neg (fun e => hu e.2)])
    clear hu
    go_upto_region 3 with (first | (go_at_call 135; refine (HU.out _).mono ?_; rintro e w5 ⟨rfl, hx5⟩))
    have HX5 := Lib.hid (HXC.out.trans hx5)
    have hw5 := Nat.le_trans hwc hx5.lt
    have M1 := Lib.hid (N1.out.mv (Mv.of_ext (b := b) hx5) (by omega))
    have M2 := Lib.hid (N2.out.mv (Mv.of_ext (b := b) hx5) (by omega))
    have M3 := Lib.hid (N3.out.mv (Mv.of_ext (b := b) hx5) (by omega))
    have HP5 := Lib.hid (HPC.out.ext hx5)
    clear y0 y1 y2 y3 y4 y5 y6 y7 y8 z0 z1 z2 z3 z4 z5 z6 z7 z8 x0 x1 x2 x3 x4 x5 x6 x7 x8 hx5 c3
    obtain ⟨y0, y1, y2, y3, y4, y5, y6, y7, y8⟩ := M1.out.nb
    obtain ⟨z0, z1, z2, z3, z4, z5, z6, z7, z8⟩ := M2.out.nb
    obtain ⟨x0, x1, x2, x3, x4, x5, x6, x7, x8⟩ := M3.out.nb
    go_wp2
    refine bodyPost_ret (v := .agg #[.int .i64 6, .int .i64 0, .string S, .slice (some ⟨w5.heap.size, 0, none⟩) 2 2]) (by simp [results, Tryz.results92, go_sem, *]) rfl ?_
    refine ⟨⟨6, 0, S, some ⟨w5.heap.size, 0, none⟩, 2, 2⟩, .nd 6 0 op [ta, tb], rfl, HEND.out w5 (Mv.of_ext HX5.out) 6 op S HS.out hw5, ?_, HMV.out w5 (Mv.of_ext HX5.out) _ _ _ _ _, ?_⟩
    · refine HSPF.out w5 _ _ ?_ _ _ _ _ _
      have := HP5.out.map (fun x => (x, Tr.nd 6 0 op [ta, tb]))
      rw [HQ.out] at this ⊢
      unfold jnB; rw [PR.bind_ok, HJ.out]; exact this
    · intro x t' r he
      rw [HQ.out, jnB, PR.bind_ok, HJ.out] at he
      injection he with he _; injection he
  rw [decide_eq_true hu] at HU
  have HUN := Lib.hid hu
  have hgo : a + 1 < N := HSB.out.go (HSB.out.txne rfl (fun e => by rw [HT.out] at e; rw [e] at hu; exact absurd hu (by decide)))
  clear hu
  go_upto_region 4 with (first | (go_at_call 135; refine (HU.out _).mono ?_; rintro e w5 ⟨rfl, hx5⟩))
  have HX5 := Lib.hid (HXC.out.trans hx5)
  have hw5 := Nat.le_trans hwc hx5.lt
  have HS5 := Lib.hid (HSC.out.ext hx5)
  have M1 := Lib.hid (N1.out.mv (Mv.of_ext (b := b) hx5) (by omega))
  have M2 := Lib.hid (N2.out.mv (Mv.of_ext (b := b) hx5) (by omega))
  have M3 := Lib.hid (N3.out.mv (Mv.of_ext (b := b) hx5) (by omega))
  clear y0 y1 y2 y3 y4 y5 y6 y7 y8 z0 z1 z2 z3 z4 z5 z6 z7 z8 x0 x1 x2 x3 x4 x5 x6 x7 x8 hx5 c3
  have c1 := HS5.out.c1
  have f1 := HS5.out.fz 1
  have l1 := HS5.out.lt
  go_upto_region 5 with (fail)
  have hm6 : Mv b w5 (w5.setCell ⟨b, 1, none⟩ (.int .i64 ((a : Int) + 1))) := Mv.set _
  have hst := HS5.out.set1 (a + 1) hgo
  rw [show (((a + 1 : Nat) : Int)) = (a : Int) + 1 by omega] at hst
  generalize w5.setCell ⟨b, 1, none⟩ (.int .i64 ((a : Int) + 1)) = w6 at *
  have HM6 := Lib.hid ((Mv.of_ext HX5.out).trans hm6)
  have hw6 := Nat.le_trans hw5 hm6.size
  have HS6 := Lib.hid hst
  have K1 := Lib.hid (M1.out.mv hm6 (by omega))
  have K2 := Lib.hid (M2.out.mv hm6 (by omega))
  have K3 := Lib.hid (M3.out.mv hm6 (by omega))
  clear hm6 hst c1 f1 l1
  obtain ⟨y0, y1, y2, y3, y4, y5, y6, y7, y8⟩ := K1.out.nb
  obtain ⟨z0, z1, z2, z3, z4, z5, z6, z7, z8⟩ := K2.out.nb
  obtain ⟨x0, x1, x2, x3, x4, x5, x6, x7, x8⟩ := K3.out.nb

  rcases HOP5.out with hop | hop
  · have tS : (S.toList == [43]) = true := lit_eq HS.out _ hop
    have HJ := Lib.hid (show joinP lv op ta tb (toks.drop a) = (.nd 7 0 t.tx [ta, tb], toks.drop (a + 1)) from by unfold joinP; rw [HT.out, if_pos ⟨H5.out, HUN.out⟩, hop, if_neg (by decide), HSB.out.hd_mem.2.2])
    clear hop
    go_wp2
    refine bodyPost_ret (v := .agg #[.int .i64 7, .int .i64 0, .string T, .slice (some ⟨w6.heap.size, 0, none⟩) 2 2]) (by simp [results, Tryz.results92, go_sem, *]) rfl ?_
    refine ⟨⟨7, 0, T, some ⟨w6.heap.size, 0, none⟩, 2, 2⟩, .nd 7 0 t.tx [ta, tb], rfl, HEND.out w6 HM6.out 7 t.tx T HTT.out hw6, ?_, HMV.out w6 HM6.out _ _ _ _ _, ?_⟩
    · refine HSPF.out w6 _ _ ?_ _ _ _ _ _
      rw [HQ.out, jnB, PR.bind_ok, HJ.out]
      exact ⟨HO2.out, a + 1, rfl, by have h9 := HS6.out; rw [HPL.out] at h9; exact h9⟩
    · intro x t' r he
      rw [HQ.out, jnB, PR.bind_ok, HJ.out] at he
      injection he with he _; injection he
  · have tS : (S.toList == [43]) = false := lit_ne HS.out _ (by rw [hop]; decide)
    have HJ := Lib.hid (show joinP lv op ta tb (toks.drop a) = (.nd 8 0 t.tx [ta, tb], toks.drop (a + 1)) from by unfold joinP; rw [HT.out, if_pos ⟨H5.out, HUN.out⟩, hop, if_pos rfl, HSB.out.hd_mem.2.2])
    clear hop
    go_wp2
    refine bodyPost_ret (v := .agg #[.int .i64 8, .int .i64 0, .string T, .slice (some ⟨w6.heap.size, 0, none⟩) 2 2]) (by simp [results, Tryz.results92, go_sem, *]) rfl ?_
    refine ⟨⟨8, 0, T, some ⟨w6.heap.size, 0, none⟩, 2, 2⟩, .nd 8 0 t.tx [ta, tb], rfl, HEND.out w6 HM6.out 8 t.tx T HTT.out hw6, ?_, HMV.out w6 HM6.out _ _ _ _ _, ?_⟩
    · refine HSPF.out w6 _ _ ?_ _ _ _ _ _
      rw [HQ.out, jnB, PR.bind_ok, HJ.out]
      exact ⟨HO2.out, a + 1, rfl, by have h9 := HS6.out; rw [HPL.out] at h9; exact h9⟩
    · intro x t' r he
      rw [HQ.out, jnB, PR.bind_ok, HJ.out] at he
      injection he with he _; injection he
end
end Go.Proofs.YtnpenepdechkjaaGreatDoor
