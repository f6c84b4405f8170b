/- slices.IndexFunc at sections, book.find, the search of cite.Of: walked (printed by genfn.py). -/
import Derived.Test.YtdbnddmncbjobaaGreatDoorQau
import Derived.RangeFuncNested
import Derived.RangeFuncBound
import Derived.RangeFuncCalls
import Derived.RangeFuncLeaves
import Derived.TacticsInMore
namespace Go.Proofs.YtdbnddmncbjobaaGreatDoor
section
open Go Go.RowKit

set_option maxHeartbeats 2000000 in
set_option maxRecDepth 100000 in
theorem clo131 (X : World) (b : Nat) (e : Int) (x : Se) (u v : Value) (_hu : u.oneCell' = true) (_hv : v.oneCell' = true) (h : X.cell? ⟨b, 0, none⟩ = some (.int .i64 e)) :
    Calls Tryz.prog 131 #[.agg #[.int .i64 x.ent, .bool x.fz, u, v], .pointer (some ⟨b, 0, none⟩)] X (fun z X' => z = .returned (.bool (x.ent == e)) ∧ Ext X X') := by
  obtain ⟨q, hq⟩ : ∃ q, (x.ent == e) = q := ⟨_, rfl⟩
  have hbl : b < X.heap.size := World.block_lt_of_cell? X _ h
  have hne : ¬ b = X.heap.size := by omega
  rw [hq]
  go_enter Tryz.func131, Tryz.ntmps131
  go_wp2_with fail
  go_ret
  exact ⟨by simp, (Ext.refl X).alloc _⟩
set_option maxHeartbeats 4000000 in
set_option maxRecDepth 100000 in
theorem idx130_131 (p : Se → Bool) (P : Nat → Prop) (W : World) (A : Option Addr) (n c b : Nat) (xs : List Se) (h : kSe.row W P A n xs) (hn : n ≤ 1000000)
    (hp : ∀ X (x : Se) u v, Ext W X → u.oneCell' = true → v.oneCell' = true → Calls Tryz.prog 131 #[.agg #[.int .i64 x.ent, .bool x.fz, u, v], .pointer (some ⟨b, 0, none⟩)] X (fun e X' => e = .returned (.bool (p x)) ∧ Ext X X')) :
    Calls Tryz.prog 130 #[.slice A n c, .func (.func 131) #[] #[.pointer (some ⟨b, 0, none⟩)]] W (fun e W' => e = .returned (.int .i64 (idxI p xs)) ∧ Ext W W') := by
  have hl := Lay.row_len h
  have HR := Lib.hid h
  have HP := Lib.hid hp
  have HL := Lib.hid hl
  clear h hp hl
  go_enter Tryz.func130, Tryz.ntmps130
  go_wp2_with fail
  go_loopw [5, 8] (fun _ s8 w' => IdRel p W xs s8 w') (fun _ s8 _ => toM n s8)
  case atStart => exact ⟨0, by omega, rfl, fun y hy => by simp at hy, Ext.refl _⟩
  case round =>
    obtain ⟨i, hi, rfl, ht, hx⟩ := hrel
    rw [← HL.out] at hi
    have HT := Lib.hid ht
    have HX := Lib.hid hx
    clear ht hx
    by_cases hlt : i < n
    case neg =>
      obtain rfl : i = n := by omega
      have hni : ¬ ((i : Int) < (i : Int)) := by omega
      have HF := Lib.hid (show idxI p xs = -1 from idxI_neg p xs (by have := HT.out; rw [HL.out, List.take_length] at this; exact this))
      go_wp2_with fail
      go_ret
      exact ⟨ret_i HF.out.symm, HX.out⟩
    have hI : (i : Int) < (n : Int) := by omega
    obtain ⟨x, hxi⟩ : ∃ x, xs[i]? = some x := ⟨_, List.getElem?_eq_getElem (by have := HL.out; omega)⟩
    obtain ⟨bb, off, cs, rfl, hb, _, hrep, hc⟩ := Lay.row_at (Lay.row_ext HR.out HX.out) hxi
    obtain ⟨A1, n1, c1, A2, n2, c2, rfl, _⟩ := kSe_rep.1 hrep
    have e0 := hc 0 _ rfl
    have e1 := hc 1 _ rfl
    have e2 := hc 2 _ rfl
    have e3 := hc 3 _ rfl
    rw [kSe_sz] at e0 e1 e2 e3
    rw [Nat.add_zero] at e0
    have HC := Lib.hid (HP.out _ x (.slice A1 n1 c1) (.slice A2 n2 c2) HX.out rfl rfl)
    have HXI := Lib.hid hxi
    clear hc hrep hxi
    obtain ⟨q, hq⟩ : ∃ q, q = p x := ⟨_, rfl⟩
    rw [← hq] at HC
    have HQ := Lib.hid hq
    clear hq
    cases q with
    | true =>
      have HF := Lib.hid (show idxI p xs = i from idxI_at p xs i x HT.out HXI.out HQ.out.symm)
      go_wp2_with (first | (go_at_call 131; refine (HC.out).mono ?_; rintro e w1 ⟨rfl, hx1⟩))
      go_ret
      exact ⟨ret_i HF.out.symm, HX.out.trans hx1⟩
    | false =>
      go_wp2_with (first | (go_at_call 131; refine (HC.out).mono ?_; rintro e w1 ⟨rfl, hx1⟩))
      go_roundw
      case rel => exact ⟨i + 1, by have := HL.out; omega, by simp, take_none HT.out HXI.out HQ.out.symm, HX.out.trans hx1⟩
      case measure => simp only [toM]; omega

set_option maxHeartbeats 4000000 in
set_option maxRecDepth 100000 in
theorem find_any (P : Nat → Prop) (w : World) (m h e : Int) (l : List Se) (A : Option Addr) (n c : Nat) (hr : kSe.row w P A n l) (hn : n ≤ 1000000) :
    Calls Tryz.prog 81 #[.agg #[.int .i64 m, .int .i64 h, .slice A n c], .int .i64 e] w (fun z w' => z = .returned (.int .i64 (idxI (fun x => x.ent == e) l)) ∧ Ext w w') := by
  obtain ⟨b1, hb1⟩ : ∃ b1, w.heap.size = b1 := ⟨_, rfl⟩
  obtain ⟨r, hr2⟩ : ∃ r, idxI (fun x => x.ent == e) l = r := ⟨_, rfl⟩
  rw [hr2]
  go_enter Tryz.func81, Tryz.ntmps81
  go_upto_region 1 with (fail)
  obtain ⟨W0, hW0⟩ : ∃ W0, (w.alloc (.cells #[.int .i64 m, .int .i64 h, .slice A n c] 27)).alloc (.cells #[.int .i64 e] 3) = W0 := ⟨_, rfl⟩
  rw [hW0]
  have hx0 : Ext w W0 := by rw [← hW0]; exact ((Ext.refl w).alloc _).alloc _
  have hB1 : W0.heap[b1]? = some (.cells #[.int .i64 m, .int .i64 h, .slice A n c] 27 (0, 0)) := by
    rw [← hW0, ← hb1]
    exact (Below.heap_alloc _ _ _ (by simp)).trans (heap_alloc_new w _)
  have hB2 : W0.heap[b1 + 1]? = some (.cells #[.int .i64 e] 3 (0, 0)) := by
    rw [← hW0, ← hb1]
    have := heap_alloc_new (w.alloc (.cells #[.int .i64 m, .int .i64 h, .slice A n c] 27)) (.cells #[.int .i64 e] 3)
    rwa [World.size_alloc] at this
  have HI := Lib.hid (idx130_131 (fun x => x.ent == e) P W0 A n c (b1 + 1) l (Lay.row_ext hr hx0) hn fun X x u v hX hu hv => clo131 X (b1 + 1) e x u v hu hv (cell_of ((hX.block _ (lt_of_block hB2)).trans hB2) rfl))
  have HX0 := Lib.hid hx0
  have a2 := cell_of hB1 (i := 2) rfl
  rw [hr2] at HI
  clear hB1 hB2 hW0 hx0 hr hr2
  go_wp2_with (first | (go_at_call 130; refine (HI.out).mono ?_; rintro z w1 ⟨rfl, hx1⟩))
  go_ret
  exact ⟨rfl, HX0.out.trans hx1⟩
end
section

def lrefs (l : List Ln) : List Int := l.flatMap (·.nts)
theorem lrefs_append (a b : List Ln) : lrefs (a ++ b) = lrefs a ++ lrefs b := by simp [lrefs]
theorem ntsOfB (p : List Wd) : (p.filterMap fun w => if w.nt ≠ 0 then some (w.nt - 1) else none) = (refs p).map (· - 1) := by
  induction p with
  | nil => rfl
  | cons w r ih =>
    by_cases h : w.nt ≠ 0
    · rw [List.filterMap_cons_some (by rw [if_pos h]), ih]
      unfold refs
      rw [List.filter_cons_of_pos (by simpa using h)]; rfl
    · rw [List.filterMap_cons_none (by rw [if_neg h]), ih]
      unfold refs
      rw [List.filter_cons_of_neg (by simpa using h)]
theorem linesGo_nts (m : Int) : ∀ (ls : List Nat) (ws : List Wd) (first : Int), ls.sum = ws.length → lrefs (linesGo m ws ls first) = (refs ws).map (· - 1) := by
  intro ls
  induction ls with
  | nil =>
    intro ws first h
    obtain rfl : ws = [] := List.eq_nil_of_length_eq_zero (by simpa using h.symm)
    simp [linesGo, lrefs, refs]
  | cons l ls ih =>
    intro ws first h
    rw [List.sum_cons] at h
    simp only [linesGo]
    show _ ++ lrefs _ = _
    rw [ih _ _ (by simp; omega), ntsOfB, ← List.map_append, ← refs_append, List.take_append_drop]
theorem linesGo_lenB (m : Int) : ∀ (ls : List Nat) (ws : List Wd) (first : Int), (linesGo m ws ls first).length = ls.length := by
  intro ls
  induction ls with
  | nil => intro ws first; simp [linesGo]
  | cons l ls ih => intro ws first; simp [linesGo, ih]
theorem sum_ge {l : List Nat} (h : ∀ x ∈ l, 1 ≤ x) : l.length ≤ l.sum := by
  induction l with
  | nil => simp
  | cons a l ih => have := ih fun x hx => h x (by simp [hx]); have := h a (by simp); simp; omega
theorem setP_nts {m : Int} (hm : 500 ≤ m) (ws : List Wd) (first : Int) : lrefs (setP ws first m) = (refs ws).map (· - 1) :=
  linesGo_nts m _ _ _ (by rw [(lens_ok hm (wds_of ws)).2]; simp)
theorem setP_len {m : Int} (hm : 500 ≤ m) (ws : List Wd) (first : Int) : (setP ws first m).length ≤ ws.length ∧ (ws ≠ [] → 1 ≤ (setP ws first m).length) := by
  have h := lens_ok hm (wds_of ws)
  have h1 := sum_ge h.1
  rw [h.2, List.length_map] at h1
  unfold setP
  rw [linesGo_lenB]
  refine ⟨h1, fun h0 => ?_⟩
  have h2 := h.2
  cases hl : lens (ws.map fun w => wid w.s) m with
  | nil =>
    rw [hl] at h2
    exact absurd (List.eq_nil_of_length_eq_zero (by simpa using h2.symm)) h0
  | cons a b => simp
theorem setsP_lenB (m : Int) : ∀ (ps : List (List Wd)) (first : Int), (setsP m ps first).length = ps.length := by
  intro ps
  induction ps with
  | nil => intro _; rfl
  | cons p ps ih => intro first; simp [setsP, ih]
theorem setsP_nts {m : Int} (hm : 500 ≤ m) : ∀ (ps : List (List Wd)) (first : Int), lrefs (setsP m ps first).flatten = (refs ps.flatten).map (· - 1) := by
  intro ps
  induction ps with
  | nil => intro _; rfl
  | cons p ps ih =>
    intro first
    simp only [setsP, List.flatten_cons, lrefs_append, refs_append, List.map_append]
    rw [setP_nts hm, ih]
theorem setsP_mem {m : Int} : ∀ (ps : List (List Wd)) (first : Int), ∀ l ∈ setsP m ps first, ∃ p ∈ ps, ∃ f, l = setP p f m := by
  intro ps
  induction ps with
  | nil => intro _ l hl; simp [setsP] at hl
  | cons p ps ih =>
    intro first l hl
    simp only [setsP, List.mem_cons] at hl
    rcases hl with rfl | hl
    · exact ⟨p, by simp, first, rfl⟩
    · obtain ⟨q, hq, f, e⟩ := ih _ l hl
      exact ⟨q, by simp [hq], f, e⟩
theorem flat_len {m : Int} (hm : 500 ≤ m) (B : Nat) : ∀ (ps : List (List Wd)) (first : Int), (∀ p ∈ ps, p.length ≤ B) → (setsP m ps first).flatten.length ≤ B * ps.length := by
  intro ps
  induction ps with
  | nil => intro _ _; simp [setsP]
  | cons p ps ih =>
    intro first h
    have h1 := ih (first + p.length) fun q hq => h q (by simp [hq])
    have h2 := (setP_len hm p first).1
    have h3 := h p (by simp)
    simp only [setsP, List.flatten_cons, List.length_append, List.length_cons, Nat.mul_add, Nat.mul_one]
    omega
theorem ordN_ok (nn : Int) : ∀ (l : List Int) (k : Nat), l = (List.range l.length).map (fun (i : Nat) => (k : Int) + i) → (k : Int) + l.length ≤ nn → ordN nn l k = some ((k + l.length : Nat) : Int) := by
  intro l
  induction l with
  | nil => intro k _ _; simp [ordN]
  | cons n r ih =>
    intro k hl hk
    simp only [List.length_cons, List.range_succ_eq_map, List.map_cons, List.map_map, List.cons.injEq] at hl hk
    have h1 : n = k := by simpa using hl.1
    simp only [ordN]
    rw [if_neg (by omega)]
    have := ih (k + 1) (hl.2.trans (List.map_congr_left fun i _ => by simp only [Function.comp, Nat.succ_eq_add_one]; omega)) (by omega)
    rw [show (k : Int) + 1 = ((k + 1 : Nat) : Int) by omega, this]
    simp only [List.length_cons]
    congr 1; omega
theorem range_split0 (a b k : Nat) : (List.range (a + b)).map (fun (i : Nat) => (k : Int) + i) = (List.range a).map (fun (i : Nat) => (k : Int) + i) ++ (List.range b).map (fun (i : Nat) => ((k + a : Nat) : Int) + i) := by
  rw [List.range_add, List.map_append, List.map_map]
  congr 1
  refine List.map_congr_left fun i _ => ?_
  simp only [Function.comp]; omega
theorem ordL_ok (nn : Int) : ∀ (l : List Ln) (k : Nat), lrefs l = (List.range (lrefs l).length).map (fun (i : Nat) => (k : Int) + i) → (k : Int) + (lrefs l).length ≤ nn → ordL nn l k = some ((k + (lrefs l).length : Nat) : Int) := by
  intro l
  induction l with
  | nil => intro k _ _; simp [ordL, lrefs]
  | cons x r ih =>
    intro k hl hk
    have e : lrefs (x :: r) = x.nts ++ lrefs r := rfl
    rw [e] at hl hk ⊢
    rw [List.length_append] at hl hk ⊢
    rw [range_split0] at hl
    have hl := List.append_inj hl (by simp)
    simp only [ordL]
    rw [ordN_ok nn x.nts k hl.1 (by omega)]
    simp only [Option.bind_some]
    rw [ih _ hl.2 (by omega)]
    congr 1; omega
theorem setF_len (h : Int) (notes : List (List Ln)) : ∀ (f : Nat) (body q : List Ln), (setF h notes f body q).length ≤ f := by
  intro f
  induction f with
  | zero => intro _ _; simp [setF]
  | succ f ih => intro body q; rw [setF]; split
                 · simp
                 · simp only [List.length_cons]; have := ih (body.drop (fillP h notes body q 0 (min (q.length : Int) (h - 1))).1) ((fillP h notes body q 0 (min (q.length : Int) (h - 1))).2.1.drop (fillP h notes body q 0 (min (q.length : Int) (h - 1))).2.2.toNat); omega
/-- A page holds no more lines than its height. -/
theorem setF_room {h : Int} (hh : 4 ≤ h) (notes : List (List Ln)) : ∀ (f : Nat) (body q : List Ln), ∀ p ∈ setF h notes f body q, (p.1.length : Int) + p.2.length ≤ h := by
  intro f
  induction f with
  | zero => intro body q p hp; simp [setF] at hp
  | succ f ih =>
    intro body q p hp
    rw [setF] at hp
    split at hp
    · simp at hp
    · simp only [List.mem_cons] at hp
      rcases hp with rfl | hp
      · obtain ⟨g1, _, g3, _, _⟩ := fillP_ok h notes body q 0 _ (fill_start hh q)
        have h1 := g1.room
        have h2 := g1.pos
        unfold roomP at h1
        simp only [List.length_take]
        omega
      · exact ih _ _ p hp
theorem leftP_bd (notes : List (List Ln)) (body : List Ln) (B : Nat) (hB : ∀ n : Nat, (notes[n]?.getD []).length ≤ B) : leftP notes body [] ≤ body.length + B * (lrefs body).length := by
  unfold leftP
  induction body with
  | nil => simp [lrefs]
  | cons x r ih =>
    have h1 : (notesOf notes x).length ≤ B * x.nts.length := by
      unfold notesOf
      induction x.nts with
      | nil => simp
      | cons n l ihl => rw [List.flatMap_cons, List.length_append, List.length_cons, Nat.mul_add]; have := hB n.toNat; omega
    have e : lrefs (x :: r) = x.nts ++ lrefs r := rfl
    rw [e, List.length_append, Nat.mul_add]
    simp only [List.map_cons, List.sum_cons, List.length_cons, List.length_nil, Nat.zero_add] at ih ⊢
    omega
/-- The pages of a generated text. -/
theorem textP_ok {t : Tx} (ht : OkT t) {m h : Int} (hm : 500 ≤ m) (hm2 : m ≤ 2000) (hh : 4 ≤ h) (hh2 : h ≤ 100) :
    (textP t m h).1 = 0 ∧ (textP t m h).2 ≠ [] ∧ (textP t m h).2.length ≤ 200 ∧ ∀ p ∈ (textP t m h).2, (p.1.length : Int) + p.2.length ≤ h := by
  have hl : linesT t m = (0, (setsP m t.paras 0).flatten, setsP m t.notes (t.paras.map List.length).sum) := by
    unfold linesT
    rw [if_neg (by rw [chkT_ok ht]; simp), if_neg (by omega)]
  obtain ⟨body, hb⟩ : ∃ b, b = (setsP m t.paras 0).flatten := ⟨_, rfl⟩
  obtain ⟨notes, hn⟩ : ∃ b, b = setsP m t.notes (t.paras.map List.length).sum := ⟨_, rfl⟩
  rw [← hb, ← hn] at hl
  have hnl : notes.length = t.notes.length := by rw [hn]; exact setsP_lenB _ _ _
  have hr : lrefs body = (List.range t.notes.length).map fun (i : Nat) => (i : Int) := by
    rw [hb, setsP_nts hm, ht.rf, upto, List.map_map]
    exact List.map_congr_left fun i _ => by simp only [Function.comp]; omega
  have hrl : (lrefs body).length = t.notes.length := by rw [hr]; simp
  have hnm : ∀ l ∈ notes, 1 ≤ l.length ∧ l.length ≤ 12 := fun l hl => by
    rw [hn] at hl
    obtain ⟨p, hp, f, rfl⟩ := setsP_mem _ _ l hl
    have h1 := setP_len hm p f
    have h2 := ht.len p hp
    exact ⟨h1.2 (fun e => by rw [e] at h2; simp at h2), by omega⟩
  have hc : chkPg body notes h = 0 := by
    unfold chkPg
    have h1 : notes.any (fun l => decide (l.length = 0)) = false := by
      rw [List.any_eq_false]; intro l hl hd; have := hnm l hl; simp only [decide_eq_true_eq] at hd; omega
    rw [if_neg (by omega), if_neg (by rw [h1]; simp)]
    have := ordL_ok notes.length body 0 (by rw [hrl, hr]; exact List.map_congr_left fun i _ => by simp) (by rw [hrl]; omega)
    rw [show ((0 : Nat) : Int) = 0 by rfl] at this
    rw [this, hrl]
    simp only
    rw [if_neg (by omega)]
  have hbl : body.length ≤ 160 := by
    have := flat_len hm 40 t.paras 0 fun p hp => (ht.par.len p hp).2
    have := ht.np
    rw [hb]; omega
  have hb0 : body ≠ [] := by
    rw [hb]
    have := ht.np
    cases hp : t.paras with
    | nil => rw [hp] at this; simp at this
    | cons p ps =>
      have h2 := ht.par.len p (by rw [hp]; simp)
      have h3 := (setP_len hm p 0).2 (fun e => by rw [e] at h2; simp at h2)
      simp only [setsP, List.flatten_cons]
      intro e
      rw [List.append_eq_nil_iff] at e
      rw [e.1] at h3
      simp at h3
  have hleft : leftP notes body [] ≤ 200 := by
    have := leftP_bd notes body 12 fun n => by
      cases hx : notes[n]? with
      | none => simp
      | some l => simpa using (hnm l (List.mem_of_getElem? hx)).2
    rw [hrl] at this
    have := ht.nn
    omega
  have e : textP t m h = (0, setF h notes (leftP notes body []) body []) := by
    unfold textP
    rw [if_neg (by rw [hl]; simp), hl]
    simp only [setPg]
    rw [if_neg (by rw [hc]; simp)]
  rw [e]
  refine ⟨rfl, ?_, ?_, fun p hp => setF_room hh notes _ _ _ p hp⟩
  · simp only
    obtain ⟨h1, _⟩ := setF_step hh notes body [] (fun hx => hb0 hx.1) _ rfl
    rw [h1]
    simp
  · have := setF_len h notes (leftP notes body []) body []
    simp only; omega
end
section

theorem gapsP_le (ws : List Int) (m : Int) (b : Bool) : (gapsP ws m b).length ≤ ws.length := by
  unfold gapsP
  cases b
  · rw [if_neg (by simp), gapsGo_len]; omega
  · rw [if_pos rfl, List.length_replicate]; omega
theorem linesGo_small (m : Int) (B : Nat) : ∀ (ls : List Nat) (ws : List Wd) (first : Int), (ws.length ≤ B) → ∀ x ∈ linesGo m ws ls first, x.gaps.length ≤ B ∧ x.nts.length ≤ B := by
  intro ls
  induction ls with
  | nil => intro ws first _ x hx; simp [linesGo] at hx
  | cons l ls ih =>
    intro ws first hB x hx
    simp only [linesGo] at hx
    rcases List.mem_cons.1 hx with rfl | hx
    · have h1 := gapsP_le ((ws.take l).map fun w => wid w.s) m ls.isEmpty
      rw [List.length_map, List.length_take] at h1
      have h2 : ((ws.take l).filterMap fun w => if w.nt ≠ 0 then some (w.nt - 1) else none).length ≤ (ws.take l).length := List.length_filterMap_le ..
      rw [List.length_take] at h2
      simp only
      omega
    · exact ih _ _ (by rw [List.length_drop]; omega) x hx
theorem setsP_small (m : Int) (B : Nat) (ps : List (List Wd)) (first : Int) (h : ∀ p ∈ ps, p.length ≤ B) : ∀ l ∈ setsP m ps first, ∀ x ∈ l, x.gaps.length ≤ B ∧ x.nts.length ≤ B := fun l hl x hx => by
  obtain ⟨p, hp, f, rfl⟩ := setsP_mem _ _ l hl
  exact linesGo_small m B _ _ _ (h p hp) x hx
/-- The lines of a generated text. -/
structure TxP (t : Tx) (m h : Int) : Prop where
  chk : chkT t = 0
  pg : chkPg (linesT t m).2.1 (linesT t m).2.2 h = 0
  ne : (linesT t m).2.1 ≠ []
  left : leftP (linesT t m).2.2 (linesT t m).2.1 [] ≤ 200
  lnb : LnsB (linesT t m).2.1
  lnn : ∀ l ∈ (linesT t m).2.2, LnsB l
  nts : NtsOk (linesT t m).2.2.length (linesT t m).2.1
  nn : (linesT t m).2.2.length ≤ 3
  eq : (textP t m h).2 = (setPg (linesT t m).2.1 (linesT t m).2.2 h).2
theorem txP_of {t : Tx} (ht : OkT t) {m h : Int} (hm : 500 ≤ m) (hm2 : m ≤ 2000) (hh : 4 ≤ h) (hh2 : h ≤ 100) : TxP t m h := by
  have hl : linesT t m = (0, (setsP m t.paras 0).flatten, setsP m t.notes (t.paras.map List.length).sum) := by
    unfold linesT
    rw [if_neg (by rw [chkT_ok ht]; simp), if_neg (by omega)]
  obtain ⟨body, hb⟩ : ∃ b, b = (setsP m t.paras 0).flatten := ⟨_, rfl⟩
  obtain ⟨notes, hn⟩ : ∃ b, b = setsP m t.notes (t.paras.map List.length).sum := ⟨_, rfl⟩
  rw [← hb, ← hn] at hl
  have hnl : notes.length = t.notes.length := by rw [hn]; exact setsP_lenB _ _ _
  have hr : lrefs body = (List.range t.notes.length).map fun (i : Nat) => (i : Int) := by
    rw [hb, setsP_nts hm, ht.rf, upto, List.map_map]
    exact List.map_congr_left fun i _ => by simp only [Function.comp]; omega
  have hrl : (lrefs body).length = t.notes.length := by rw [hr]; simp
  have hnm : ∀ l ∈ notes, 1 ≤ l.length ∧ l.length ≤ 12 := fun l hl => by
    rw [hn] at hl
    obtain ⟨p, hp, f, rfl⟩ := setsP_mem _ _ l hl
    have h1 := setP_len hm p f
    have h2 := ht.len p hp
    exact ⟨h1.2 (fun e => by rw [e] at h2; simp at h2), by omega⟩
  have hc : chkPg body notes h = 0 := by
    unfold chkPg
    have h1 : notes.any (fun l => decide (l.length = 0)) = false := by
      rw [List.any_eq_false]; intro l hl hd; have := hnm l hl; simp only [decide_eq_true_eq] at hd; omega
    rw [if_neg (by omega), if_neg (by rw [h1]; simp)]
    have := ordL_ok notes.length body 0 (by rw [hrl, hr]; exact List.map_congr_left fun i _ => by simp) (by rw [hrl]; omega)
    rw [show ((0 : Nat) : Int) = 0 by rfl] at this
    rw [this, hrl]
    simp only
    rw [if_neg (by omega)]
  have hbl : body.length ≤ 160 := by
    have := flat_len hm 40 t.paras 0 fun p hp => (ht.par.len p hp).2
    have := ht.np
    rw [hb]; omega
  have hb0 : body ≠ [] := by
    rw [hb]
    have := ht.np
    cases hp : t.paras with
    | nil => rw [hp] at this; simp at this
    | cons p ps =>
      have h2 := ht.par.len p (by rw [hp]; simp)
      have h3 := (setP_len hm p 0).2 (fun e => by rw [e] at h2; simp at h2)
      simp only [setsP, List.flatten_cons]
      intro e
      rw [List.append_eq_nil_iff] at e
      rw [e.1] at h3
      simp at h3
  have hleft : leftP notes body [] ≤ 200 := by
    have := leftP_bd notes body 12 fun n => by
      cases hx : notes[n]? with
      | none => simp
      | some l => simpa using (hnm l (List.mem_of_getElem? hx)).2
    rw [hrl] at this
    have := ht.nn
    omega
  refine ⟨chkT_ok ht, ?_, ?_, ?_, ?_, ?_, ?_, ?_, ?_⟩ <;> rw [hl]
  · exact hc
  · exact hb0
  · exact hleft
  · intro x hx
    rw [hb] at hx
    obtain ⟨l, hl1, hx1⟩ := List.mem_flatten.1 hx
    have := setsP_small m 40 t.paras 0 (fun p hp => (ht.par.len p hp).2) l hl1 x hx1
    omega
  · intro l hl1 x hx
    rw [hn] at hl1
    have := setsP_small m 12 t.notes _ (fun p hp => (ht.len p hp).2) l hl1 x hx
    omega
  · intro x hx k hk
    have : k ∈ lrefs body := List.mem_flatMap.2 ⟨x, hx, hk⟩
    rw [hr] at this
    obtain ⟨i, hi, rfl⟩ := List.mem_map.1 this
    have := List.mem_range.1 hi
    simp only
    omega
  · have := ht.nn
    simp only; omega
  · unfold textP
    rw [if_neg (by rw [hl]; simp), hl]
end
section
open Go Go.RowKit

set_option maxHeartbeats 4000000 in
set_option maxRecDepth 100000 in
theorem ptext_any (P : Nat → Prop) (w : World) (t : Tx) (m h : Int) (A A' : Option Addr) (n n' c c' : Nat) (h1 : kWs.row w P A n t.paras) (h2 : kWs.row w P A' n' t.notes) (hT : TxP t m h) (hm0 : 500 ≤ m) (hm : m ≤ 2000) (hL : EnvW w) :
    Calls Tryz.prog 127 #[.agg #[.slice A n c, .slice A' n' c'], .int .i64 m, .int .i64 h] w (fun e w' => ∃ A1 c1, e = .returned (.tuple #[.slice A1 (textP t m h).2.length c1, .int .i64 0]) ∧
      kPg.own 84 w' w.heap.size (fun j => w.heap.size ≤ j) (.slice A1 (textP t m h).2.length c1) ((textP t m h).2.map pgOf) ∧ Ext w w') := by
  have HLI := Lib.hid (fun X (hX : Ext w X) => lines_any P X t m A A' n n' c c' (Lay.row_ext h1 hX) (Lay.row_ext h2 hX) hT.chk hm0 hm (hL.ext hX))
  have HT := Lib.hid hT
  obtain ⟨body, hb⟩ : ∃ b, (linesT t m).2.1 = b := ⟨_, rfl⟩
  obtain ⟨notes, hn⟩ : ∃ b, (linesT t m).2.2 = b := ⟨_, rfl⟩
  have HB := Lib.hid hb
  have HN := Lib.hid hn
  simp only [hb, hn] at HLI
  clear h1 h2 hT hL hb hn
  go_enter Tryz.func127, Tryz.ntmps127
  go_wp2_with fail
  refine (HLI.out _ ((Ext.refl w).alloc _)).mono ?_
  rintro e w1 ⟨A1, c1, A2, c2, rfl, ho1, ho2, hx1⟩
  have HX1 := Lib.hid (((Ext.refl w).alloc (.cells #[.slice A n c, .slice A' n' c'] 53)).trans hx1)
  obtain ⟨Ab, cb, e1, hcb, hr1⟩ := own_rowN (Q := fun j => w.heap.size ≤ j) ho1 (fun j hj _ => by rw [World.size_alloc] at hj; omega) (fun j hj _ => by rw [World.size_alloc] at hj; omega)
  obtain ⟨An, cn, e2, _, hr2⟩ := own_rowN (Q := fun j => w.heap.size ≤ j) ho2 (fun j hj _ => by rw [World.size_alloc] at hj; omega) (fun j hj _ => by rw [World.size_alloc] at hj; omega)
  have e1a : A1 = Ab := by injection e1
  have e1c : c1 = cb := by injection e1
  have e2a : A2 = An := by injection e2
  rw [← e1a] at hr1
  rw [← e2a] at hr2
  rw [← e1c] at hcb
  clear e1 e2 e1a e1c e2a ho1 ho2
  have hbl : 0 < body.length := List.length_pos_iff.2 (by rw [← HB.out]; exact HT.out.ne)
  obtain ⟨x0, hx0⟩ : ∃ x, body[0]? = some x := ⟨_, List.getElem?_eq_getElem hbl⟩
  obtain ⟨b0, o0, cs, rfl, _, _, _, _⟩ := Lay.row_at hr1 hx0
  have HPS := Lib.hid (pset_any (fun j => w.heap.size ≤ j) w1 b0 o0 body.length c1 notes.length c2 200 A2 body notes h hr1 hcb hr2 (by have := HT.out.pg; rwa [HB.out, HN.out] at this) (by have := HT.out.left; rwa [HB.out, HN.out] at this) (by omega) (by have := HT.out.nn; rw [HN.out] at this; omega) (by have := HT.out.lnb; rwa [HB.out] at this) (by have := HT.out.lnn; rwa [HN.out] at this) (by have := HT.out.nts; rwa [HB.out, HN.out] at this))
  have HEQ := Lib.hid (show (setPg body notes h).2 = (textP t m h).2 by rw [HT.out.eq, HB.out, HN.out])
  rw [HEQ.out] at HPS
  clear hr1 hr2 hx0 hx1
  go_wp2_with fail
  refine HPS.out.mono ?_
  rintro e w2 ⟨A3, c3, rfl, ho3, hx3⟩
  have HO3 := Lib.hid ho3
  have HX3 := Lib.hid (HX1.out.trans hx3)
  clear ho3 hx3
  have hw1 := HX1.out.lt
  go_wp2_with fail
  go_ret2
  exact ⟨A3, c3, rfl, own_low HO3.out hw1, HX3.out⟩
end
section
open Go Go.RowKit

/-- The blocks of Q' are those of Q, new ones, and the block b. -/
def Grow (b : Nat) (Q Q' : Nat → Prop) (A : World) : Prop := ∀ j, Q' j → Q j ∨ A.heap.size ≤ j ∨ j = b
/-- What holds abides a step of the iterator's, which turns its own block b alone. -/
def AbMv {β : Type} (b : Nat) (J : β → (Nat → Prop) → World → Prop) : Prop := ∀ s Q Q' A B, J s Q A → Mv b A B → Grow b Q Q' A → J s Q' B
/-- An iterator over values that lie in memory: those that come lie so (Rp) in blocks of a set Q, which the rounds leave as they are. -/
def RSeq {α : Type} (F : Fence) (n : Nat) (P : Program) (g : Nat) (lb : Array Value) (encs : α → Array Value) (Rp : (Nat → Prop) → α → World → Prop) (S Sp : List α → Prop) (Q0 : Nat → Prop) (w : World) : Prop :=
  ∀ (l : Nat) (J Jx : List α → (Nat → Prop) → World → Prop) (W : World), w.heap.size ≤ W.heap.size → (∀ j, j < w.heap.size → W.heap[j]? = w.heap[j]?) → Ext w W → AbMv W.heap.size J → AbMv W.heap.size Jx →
    (∀ pre x Q W1, J pre Q W1 → Rp (fun j => (Q j ∧ j ≠ W.heap.size) ∧ w.heap.size ≤ j) x W1 → (∀ j, Q j → j < W1.heap.size) → W.heap.size < W1.heap.size → Sp (pre ++ [x]) → YieldAt F (n - 1) P l (encs x) W1 fun e W' =>
      (e = .returned (.bool true) ∧ J (pre ++ [x]) Q W' ∧ ∀ j, Q j → W'.heap[j]? = W1.heap[j]?) ∨ (e = .returned (.bool false) ∧ Jx (pre ++ [x]) Q W')) →
    J [] Q0 W →
    CallsIn F n P g (#[.func (.yield l) #[] #[]] ++ lb) W fun e W' => (∃ v, e = .returned v) ∧ ((∃ xs Q, S xs ∧ J xs Q W') ∨ (∃ pre Q, Sp pre ∧ Jx pre Q W'))
/-- How the body of a round may be left: the two blocks of the loop's book-keeping lie as they lay. -/
def rgPost {α : Type} (l D : Nat) (Q : Nat → Prop) (I : List α → (Nat → Prop) → World → Prop) (Ix : Code → List α → (Nat → Prop) → World → Prop) (xs : List α) (W : World) : Exit → Act → World → Prop
  | .normal, _, W' => (W'.heap[l]? = W.heap[l]? ∧ W'.heap[D]? = W.heap[D]?) ∧ (∀ j, Q j → W'.heap[j]? = W.heap[j]?) ∧ I xs Q W'
  | .ret, _, W' => (W'.heap[l]? = W.heap[l]? ∧ W'.heap[D]? = W.heap[D]?) ∧ Ix .ret xs Q W'
  | .exit id, _, W' => (W'.heap[l]? = W.heap[l]? ∧ W'.heap[D]? = W.heap[D]?) ∧ Ix (.exit id) xs Q W'
  | .goto t, _, W' => (W'.heap[l]? = W.heap[l]? ∧ W'.heap[D]? = W.heap[D]?) ∧ Ix (.goto t) xs Q W'
  | .panic _, _, _ => False
  | .outgrown, _, _ => False
theorem Mv.blk {b k : Nat} {A B : World} {o : Obj} (h : Mv b A B) (hk : k ≠ b) (ho : A.heap[k]? = some o) : B.heap[k]? = some o := (h.keep k hk (Array.getElem?_eq_some_iff.1 ho).1).trans ho
end
section
open Go Go.RowKit

/-- A page with its two rows' places. -/
abbrev PgV := Pg × (Option Addr × Nat × Nat) × (Option Addr × Nat × Nat)
def pgEnc (x : PgV) : Array Value := #[.agg #[.int .i64 x.1.num, .int .i64 x.1.suf, .int .i64 x.1.ent, .int .i64 x.1.ver, .slice x.2.1.1 x.2.1.2.1 x.2.1.2.2, .slice x.2.2.1 x.2.2.2.1 x.2.2.2.2]]
/-- Such a page lies in blocks of Q. -/
def pgRp (Q : Nat → Prop) (x : PgV) (W : World) : Prop := x.2.1.2.1 ≤ x.2.1.2.2 ∧ x.2.2.2.1 ≤ x.2.2.2.2 ∧ kLn.row W Q x.2.1.1 x.2.1.2.1 x.1.body ∧ kLn.row W Q x.2.2.1 x.2.2.2.1 x.1.nts ∧ x.1.body.length ≤ 1000 ∧ x.1.nts.length ≤ 1000
set_option maxHeartbeats 2000000 in
set_option maxRecDepth 100000 in
theorem all_any (w : World) (m h : Int) (A : Option Addr) (n c : Nat) :
    Calls Tryz.prog 73 #[.agg #[.int .i64 m, .int .i64 h, .slice A n c]] w (fun e w' => e = .returned (.func (.func 126) #[] #[.pointer (some ⟨w.heap.size, 0, none⟩)]) ∧ w' = w.alloc (.cells #[.int .i64 m, .int .i64 h, .slice A n c] 27)) := by
  go_enter Tryz.func73, Tryz.ntmps73
  go_wp2_with fail
  go_ret
  exact ⟨rfl, rfl⟩
/-- A round that leaves the blocks of Q, the last block of all being one: the heap has not shrunk. -/
theorem kept_size {Q : Nat → Prop} {W W' : World} (h : ∀ j, Q j → W'.heap[j]? = W.heap[j]?) (hl : Q (W.heap.size - 1)) (h0 : 0 < W.heap.size) : W.heap.size ≤ W'.heap.size := by
  have h1 := (h _ hl).trans (Array.getElem?_eq_getElem (xs := W.heap) (i := W.heap.size - 1) (by omega))
  have := (Array.getElem?_eq_some_iff.1 h1).1
  omega
/-- The table of widths lies in block 4 alone. -/
theorem EnvW.blk {w W : World} (h : EnvW w) (hb : W.heap[4]? = w.heap[4]?) : EnvW W := by
  intro W' hx
  have h1 := h w (Ext.refl w)
  have hg : Tryz.prog.globalNamed "rollbook/glyph.widths" = some 4 := by kernel_rfl
  unfold World.var? at h1 ⊢
  rw [hg] at h1 ⊢
  simp only [Option.bind_some] at h1 ⊢
  have hlt : 4 < W.heap.size := by
    rcases Nat.lt_or_ge 4 W.heap.size with h9 | h9
    · exact h9
    · rw [← hb, Array.getElem?_eq_none h9] at h1
      exact absurd h1 (by simp)
  rw [hx.block 4 hlt, hb]
  exact h1
/-- What holds between two steps of the iterator's: pre has come, in blocks of Q; the book; its own count of the pages in block B. -/
structure ItC (J : List PgV → (Nat → Prop) → World → Prop) (Q0 : Nat → Prop) (B bb : Nat) (b : Bk) (A : Option Addr) (N c : Nat) (num suf : Int) (pre : List PgV) (Q : Nat → Prop) (wr : World) : Prop where
  j : J pre Q wr
  q0 : ∀ j, Q0 j → Q j
  qB : Q B
  lt : ∀ j, Q j → j < wr.heap.size
  hb : wr.heap[bb]? = some (.cells #[.int .i64 b.ms, .int .i64 b.ht, .slice A N c] 27 (0, 0))
  hB : wr.heap[B]? = some (.cells #[.int .i64 num, .int .i64 suf] 64 (0, 0))
  row : kSe.row wr Q0 A N b.secs
  env : EnvW wr
/-- The blocks of Q, and those made since. -/
def Qn (Q : Nat → Prop) (W W' : World) : Nat → Prop := fun j => Q j ∨ (W.heap.size ≤ j ∧ j < W'.heap.size)
theorem ItC.ext {J : List PgV → (Nat → Prop) → World → Prop} {Q0 Q : Nat → Prop} {B bb N c : Nat} {b : Bk} {A : Option Addr} {num suf : Int} {pre : List PgV} {wr wr' : World} (hJ : AbMv B J)
    (h : ItC J Q0 B bb b A N c num suf pre Q wr) (hx : Ext wr wr') : ItC J Q0 B bb b A N c num suf pre (Qn Q wr wr') wr' :=
  ⟨hJ _ _ _ _ _ h.j (Mv.of_ext hx) (fun j hj => by rcases hj with hj | hj; exact .inl hj; exact .inr (.inl hj.1)), fun j hj => .inl (h.q0 j hj), .inl h.qB,
    fun j hj => by rcases hj with hj | hj; exact Nat.lt_of_lt_of_le (h.lt j hj) hx.lt; exact hj.2,
    (hx.block _ (lt_of_block h.hb)).trans h.hb, (hx.block _ (lt_of_block h.hB)).trans h.hB, Lay.row_ext h.row hx, h.env.ext hx⟩
theorem ItC.set {J : List PgV → (Nat → Prop) → World → Prop} {Q0 Q : Nat → Prop} {B bb N c : Nat} {b : Bk} {A : Option Addr} {num suf num' suf' : Int} {pre : List PgV} {wr wr' : World} (hJ : AbMv B J)
    (h : ItC J Q0 B bb b A N c num suf pre Q wr) (hm : Mv B wr wr') (hs : wr'.heap.size = wr.heap.size) (hB : wr'.heap[B]? = some (.cells #[.int .i64 num', .int .i64 suf'] 64 (0, 0))) (hbb : bb ≠ B) (h4 : 4 < B) (hQ : ∀ j, Q0 j → j ≠ B) :
    ItC J Q0 B bb b A N c num' suf' pre Q wr' :=
  ⟨hJ _ _ _ _ _ h.j hm (fun j hj => .inl hj), h.q0, h.qB, fun j hj => by rw [hs]; exact h.lt j hj, (hm.keep bb hbb (lt_of_block h.hb)).trans h.hb, hB,
    Lay.row_keep h.row (by omega) fun j hj hl => hm.keep j (hQ j hj) hl, h.env.blk (hm.keep 4 (by omega) (Nat.lt_trans h4 (lt_of_block h.hB)))⟩
/-- Both: new blocks, turned as one likes, and the count. -/
theorem ItC.mv {J : List PgV → (Nat → Prop) → World → Prop} {Q0 Q : Nat → Prop} {B bb N c : Nat} {b : Bk} {A : Option Addr} {num suf num' suf' : Int} {pre : List PgV} {wr wr' : World} (hJ : AbMv B J)
    (h : ItC J Q0 B bb b A N c num suf pre Q wr) (hm : Mv B wr wr') (hs : wr.heap.size ≤ wr'.heap.size) (hB : wr'.heap[B]? = some (.cells #[.int .i64 num', .int .i64 suf'] 64 (0, 0))) (hbb : bb ≠ B) (h4 : 4 < B) (hQ : ∀ j, Q0 j → j ≠ B) :
    ItC J Q0 B bb b A N c num' suf' pre (Qn Q wr wr') wr' :=
  ⟨hJ _ _ _ _ _ h.j hm (fun j hj => by rcases hj with hj | hj; exact .inl hj; exact .inr (.inl hj.1)), fun j hj => .inl (h.q0 j hj), .inl h.qB,
    fun j hj => by rcases hj with hj | hj; exact Nat.lt_of_lt_of_le (h.lt j hj) hs; exact hj.2,
    (hm.keep bb hbb (lt_of_block h.hb)).trans h.hb, hB, Lay.row_keep h.row hs fun j hj hl => hm.keep j (hQ j hj) hl, h.env.blk (hm.keep 4 (by omega) (Nat.lt_trans h4 (lt_of_block h.hB)))⟩
theorem ItC.round {J : List PgV → (Nat → Prop) → World → Prop} {Q0 Q : Nat → Prop} {B bb N c : Nat} {b : Bk} {A : Option Addr} {num suf : Int} {pre pre' : List PgV} {wr wr' : World}
    (h : ItC J Q0 B bb b A N c num suf pre Q wr) (hj : J pre' Q wr') (hk : ∀ j, Q j → wr'.heap[j]? = wr.heap[j]?) (hl : Q (wr.heap.size - 1)) (hbb : Q0 bb) (h4 : Q0 4) :
    ItC J Q0 B bb b A N c num suf pre' Q wr' := by
  have hsz := kept_size hk hl (Nat.lt_of_le_of_lt (Nat.zero_le _) (h.lt _ hl))
  exact ⟨hj, h.q0, h.qB, fun j hq => Nat.lt_of_lt_of_le (h.lt j hq) hsz, (hk bb (h.q0 _ hbb)).trans h.hb, (hk _ h.qB).trans h.hB, Lay.row_keep h.row hsz fun j hq _ => hk j (h.q0 j hq), h.env.blk (hk 4 (h.q0 _ h4))⟩
end
end Go.Proofs.YtdbnddmncbjobaaGreatDoor