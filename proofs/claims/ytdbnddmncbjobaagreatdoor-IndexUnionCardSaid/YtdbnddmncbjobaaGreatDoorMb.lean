/- What the list of one variable gives: the table of widths, in every later world; a world that meets the list. -/
import Derived.Test.YtdbnddmncbjobaaGreatDoorLaid
import Derived.Test.YtdbnddmncbjobaaGreatDoorMa
import Derived.Lib.AppendZeros
import Derived.Deep.DeepCutAuto
import Derived.Deep.RegionLaw
import Derived.Deep.RegionHeld3
import Derived.Deep.QuietTactic
import Derived.BigQuiet
import Derived.Laws.CopyOwn
import Derived.WalkMore
namespace Go.Proofs.YtdbnddmncbjobaaGreatDoor
open Go Go.RowKit

/-- The list that the rows of the index bear. -/
def theList1 : List (String × DataW Unit) := [("rollbook/glyph.widths", Rows.laid_rollbook_glyph_widths)]
theorem envw_of_laid1 {W : World} (h : laidMetH Tryz.prog theList1 W) : EnvW W := by
  rw [MakeChecks.laidMetH_plain _ _ _ (by kernel_rfl)] at h
  intro W' hx
  have ht : Lib.TabIs Tryz.prog W "rollbook/glyph.widths" .u8 (wtab.map fun (i : Nat) => (i : Int)) := Lib.tabIs_of_head gWid (by kernel_rfl) Tryz.underlying278 Tryz.underlying5 (by kernel_rfl) (by kernel_rfl) h
  unfold Lib.TabIs at ht
  rw [var_later gWid ht (by decide) hx]
  simp [List.map_map, Function.comp_def]
/-- The door's own heap meets the list. -/
theorem door_met1 (os : Os) (args : Array Value) : laidMetH Tryz.prog theList1 ((World.doorLaid Tryz.prog 400 os).forCall (fun _ _ => 0) ⟨#[], args, []⟩).memory :=
  laidMetH_of_parts3 (fuel := 8) (laidMet_of_run' 8 (by kernel_rfl) (by kernel_rfl)) (by kernel_rfl) (by kernel_rfl)
end Go.Proofs.YtdbnddmncbjobaaGreatDoor

/- The generator of books in plain Lean. -/
namespace Go.Proofs.YtdbnddmncbjobaaGreatDoor

end Go.Proofs.YtdbnddmncbjobaaGreatDoor

/- The generated texts are valid. -/
namespace Go.Proofs.YtdbnddmncbjobaaGreatDoor

/-- A word that may stand in a text. -/
def OkW (w : Wd) : Prop := validW w.s = true ∧ (w.key = [] ∨ validW w.key = true) ∧ (w.tb = 0 ∨ w.tb = 1) ∧ w.s.length ≤ 40 ∧ w.key.length ≤ 40
/-- The notes to which words refer. -/
def refs (p : List Wd) : List Int := (p.filter fun w => decide (w.nt ≠ 0)).map (·.nt)
def upto (k : Nat) : List Int := (List.range k).map fun (i : Nat) => (i : Int) + 1
theorem refs_append (a b : List Wd) : refs (a ++ b) = refs a ++ refs b := by simp [refs]
/-- What the paragraphs of a generated text are. -/
structure OkP (ps : List (List Wd)) : Prop where
  len : ∀ p ∈ ps, 1 ≤ p.length ∧ p.length ≤ 40
  ok : ∀ p ∈ ps, ∀ w ∈ p, OkW w
/-- A generated text, which has some notes. -/
structure OkT (t : Tx) : Prop where
  par : OkP t.paras
  np : 1 ≤ t.paras.length ∧ t.paras.length ≤ 4
  nn : t.notes.length ≤ 3
  len : ∀ p ∈ t.notes, 1 ≤ p.length ∧ p.length ≤ 12
  ok : ∀ p ∈ t.notes, ∀ w ∈ p, OkW w ∧ w.nt = 0
  rf : refs t.paras.flatten = upto t.notes.length
/-- The words are found to be right. -/
theorem chkWs_ok (nn : Int) : ∀ (p : List Wd) (k : Nat), (∀ w ∈ p, OkW w) → refs p = (List.range (refs p).length).map (fun (i : Nat) => (k : Int) + i + 1) → (k : Int) + (refs p).length ≤ nn → chkWs true nn p k = .inr ((k + (refs p).length : Nat) : Int) := by
  intro p
  induction p with
  | nil => intro k _ _ _; simp [chkWs, refs]
  | cons w r ih =>
    intro k hok hr hk
    have hw := hok w (by simp)
    have h1 : (!validW w.s || (decide (w.key ≠ []) && !validW w.key)) = false := by
      rw [hw.1]
      rcases hw.2.1 with h | h
      · simp [h]
      · simp [h]
    have h2 : ¬ (w.tb ≠ 0 ∧ w.tb ≠ 1) := by have := hw.2.2.1; omega
    simp only [chkWs]
    rw [if_neg (by rw [h1]; simp), if_neg h2]
    by_cases h3 : w.nt ≠ 0
    · rw [if_pos h3]
      have e : refs (w :: r) = w.nt :: refs r := by unfold refs; rw [List.filter_cons_of_pos (by simpa using h3)]; rfl
      rw [e] at hr hk
      simp only [List.length_cons, List.range_succ_eq_map, List.map_cons, List.map_map, List.cons.injEq] at hr
      have h4 : w.nt = k + 1 := by have := hr.1; simpa using this
      simp only [List.length_cons] at hk
      rw [if_neg (by simp; omega)]
      have := ih (k + 1) (fun x hx => hok x (by simp [hx])) (by
        refine hr.2.trans ?_
        refine List.map_congr_left fun i _ => ?_
        simp only [Function.comp, Nat.succ_eq_add_one]; omega) (by omega)
      rw [show ((k + 1 : Nat) : Int) = (k : Int) + 1 by omega] at this
      rw [this, e]
      simp only [List.length_cons]
      congr 1; omega
    · rw [if_neg h3]
      have e : refs (w :: r) = refs r := by unfold refs; rw [List.filter_cons_of_neg (by simpa using h3)]
      rw [e] at hr hk ⊢
      exact ih k (fun x hx => hok x (by simp [hx])) hr hk
theorem chkWs_note (nn : Int) (k : Int) : ∀ (p : List Wd), (∀ w ∈ p, OkW w ∧ w.nt = 0) → chkWs false nn p k = .inr k := by
  intro p
  induction p with
  | nil => intro _; rfl
  | cons w r ih =>
    intro hok
    have hw := (hok w (by simp)).1
    have h1 : (!validW w.s || (decide (w.key ≠ []) && !validW w.key)) = false := by
      rw [hw.1]
      rcases hw.2.1 with h | h
      · simp [h]
      · simp [h]
    have h2 : ¬ (w.tb ≠ 0 ∧ w.tb ≠ 1) := by have := hw.2.2.1; omega
    simp only [chkWs]
    rw [if_neg (by rw [h1]; simp), if_neg h2, if_neg (by have := (hok w (by simp)).2; omega)]
    exact ih fun x hx => hok x (by simp [hx])
theorem chkPs_notes (nn : Int) (k : Int) : ∀ (ps : List (List Wd)), (∀ p ∈ ps, ∀ w ∈ p, OkW w ∧ w.nt = 0) → chkPs nn 0 ps k = .inr k := by
  intro ps
  induction ps with
  | nil => intro _; rfl
  | cons p ps ih =>
    intro h
    simp only [chkPs]
    rw [show decide (0 < 0) = false by decide, chkWs_note nn k p (h p (by simp))]
    exact ih fun q hq => h q (by simp [hq])
theorem range_split (a b k : Nat) : (List.range (a + b)).map (fun (i : Nat) => (k : Int) + i + 1) = (List.range a).map (fun (i : Nat) => (k : Int) + i + 1) ++ (List.range b).map (fun (i : Nat) => ((k + a : Nat) : Int) + i + 1) := by
  rw [List.range_add, List.map_append, List.map_map]
  congr 1
  refine List.map_congr_left fun i _ => ?_
  simp only [Function.comp]; omega
theorem chkPs_ok (nn : Int) (ns : List (List Wd)) (hns : ∀ p ∈ ns, ∀ w ∈ p, OkW w ∧ w.nt = 0) : ∀ (ps : List (List Wd)) (k : Nat), (∀ p ∈ ps, ∀ w ∈ p, OkW w) →
    refs ps.flatten = (List.range (refs ps.flatten).length).map (fun (i : Nat) => (k : Int) + i + 1) → (k : Int) + (refs ps.flatten).length ≤ nn → chkPs nn ps.length (ps ++ ns) k = .inr ((k + (refs ps.flatten).length : Nat) : Int) := by
  intro ps
  induction ps with
  | nil => intro k _ _ _; simp only [List.nil_append, List.length_nil]; rw [chkPs_notes nn k ns hns]; simp [refs]
  | cons p ps ih =>
    intro k hok hr hk
    rw [List.flatten_cons, refs_append] at hr hk ⊢
    rw [List.length_append] at hr hk ⊢
    rw [range_split] at hr
    have hr := List.append_inj hr (by simp)
    simp only [List.cons_append, chkPs, List.length_cons]
    rw [show decide (0 < ps.length + 1) = true by simp, chkWs_ok nn p k (hok p (by simp)) hr.1 (by omega)]
    simp only [Nat.add_sub_cancel]
    rw [ih (k + (refs p).length) (fun q hq => hok q (by simp [hq])) hr.2 (by omega)]
    congr 1; omega
theorem chkT_ok {t : Tx} (h : OkT t) : chkT t = 0 := by
  unfold chkT
  have hl : ∀ p ∈ t.paras ++ t.notes, 1 ≤ p.length ∧ p.length ≤ 40 := fun p hp => by
    rcases List.mem_append.1 hp with hp | hp
    · exact h.par.len p hp
    · have := h.len p hp; omega
  have h1 : (t.paras ++ t.notes).any (fun p => decide (500 < p.length)) = false := by
    rw [List.any_eq_false]; intro p hp hd; have := hl p hp; simp at hd; omega
  have h2 : (t.paras ++ t.notes).any (fun p => decide (p.length = 0)) = false := by
    rw [List.any_eq_false]; intro p hp hd; have := hl p hp; simp only [decide_eq_true_eq] at hd; omega
  have hp := h.np
  have hn := h.nn
  rw [if_neg (by rw [h1]; simp; omega), if_neg (by rw [h2]; simp)]
  have hlen : (refs t.paras.flatten).length = t.notes.length := by rw [h.rf]; simp [upto]
  have := chkPs_ok t.notes.length t.notes h.ok t.paras 0 h.par.ok (by rw [hlen, h.rf]; simp [upto]) (by rw [hlen]; omega)
  rw [show ((0 : Nat) : Int) = 0 by rfl] at this
  rw [this, hlen]
  simp
end Go.Proofs.YtdbnddmncbjobaaGreatDoor

/- Width, Valid: walked. -/
namespace Go.Proofs.YtdbnddmncbjobaaGreatDoor
open Go Go.RowKit

def toM (n : Nat) (v : Value) : Nat := match v with | .int _ z => n - z.toNat | _ => 0
theorem list_size (s : ByteArray) : s.data.toList.length = s.size := by simp
theorem get_list (s : ByteArray) (pos : Nat) (h : pos < s.size) : s.data.toList.drop pos = (s[pos]'h) :: s.data.toList.drop (pos + 1) := by
  have h' : pos < s.data.toList.length := by simpa using h
  rw [List.drop_eq_getElem_cons h']
  rfl
def WiRel (S : ByteArray) (w : World) (s3 s11 : Value) (w' : World) : Prop :=
  ∃ (i : Nat) (n : Int), i ≤ S.size ∧ s11 = .int .i64 i ∧ s3 = .int .i64 n ∧ 0 ≤ n ∧ n ≤ 12 * i ∧ widGo S.data.toList 0 = widGo (S.data.toList.drop i) n ∧ w = w'
set_option maxHeartbeats 4000000 in
set_option maxRecDepth 100000 in
theorem width_any (S : ByteArray) (w : World) (hL : EnvW w) : Calls Tryz.prog 219 #[.string S] w (fun e w' => e = .returned (.int .i64 (wid S.data.toList)) ∧ w' = w) := by
  by_cases h1 : 40 < S.size
  · have h1' : (40 : Int) < (S.size : Int) := by omega
    have HE := Lib.hid (show wid S.data.toList = 0 by unfold wid; rw [list_size, if_pos h1])
    go_enter Tryz.func219, Tryz.ntmps219
    go_wp2
    go_ret
    exact ⟨ret_i HE.out.symm, rfl⟩
  have h1' : ¬ (40 : Int) < (S.size : Int) := by omega
  have HE := Lib.hid (show wid S.data.toList = widGo S.data.toList 0 by unfold wid; rw [list_size, if_neg h1])
  have HG := Lib.hid (fun c => gwidth_any c w hL)
  have hsz : S.size ≤ 40 := by omega
  clear hL h1
  go_enter Tryz.func219, Tryz.ntmps219
  go_wp2
  go_loopw [3, 11] (fun s3 s11 w' => WiRel S w s3 s11 w') (fun _ s11 _ => toM S.size s11)
  case atStart => exact ⟨0, 0, by omega, rfl, rfl, by omega, by omega, rfl, rfl⟩
  case round =>
    obtain ⟨i, n, hi, rfl, rfl, hn0, hn1, hr, rfl⟩ := hrel
    have HR := Lib.hid hr
    clear hr
    by_cases hlt : i < S.size
    case neg =>
      obtain rfl : i = S.size := by omega
      have hni : ¬ ((S.size : Int) < (S.size : Int)) := by omega
      have HF := Lib.hid (show wid S.data.toList = n by rw [HE.out, HR.out, List.drop_of_length_le (by rw [list_size]; omega)]; rfl)
      go_wp2
      go_ret
      exact ⟨ret_i HF.out.symm, rfl⟩
    have hI : (i : Int) < (S.size : Int) := by omega
    obtain ⟨c, hc⟩ : ∃ c, c = S[i]'hlt := ⟨_, rfl⟩
    have hgl := get_list S i hlt
    rw [← hc] at hgl
    have HD := Lib.hid hgl
    have HC := Lib.hid hc
    have hb := widB_bd c
    obtain ⟨v, hv⟩ : ∃ v, v = widB c := ⟨_, rfl⟩
    rw [← hv] at hb
    have HV := Lib.hid hv
    have HGC := Lib.hid (show Calls Tryz.prog 239 #[.int .u8 c.toNat] w (fun e w1 => e = .returned (.int .i64 v) ∧ w1 = w) by rw [hv]; exact HG.out c)
    clear hgl hv
    by_cases hz : v = 0
    · have HF := Lib.hid (show wid S.data.toList = 0 by
        rw [HE.out, HR.out, HD.out, widGo, if_pos (by rw [← HV.out]; exact hz)])
      subst hz
      go_wp2_with (first | (go_at_call 239; rw [← HC.out]; refine (HGC.out).mono ?_; rintro e w1 ⟨rfl, rfl⟩))
      go_ret
      exact ⟨ret_i HF.out.symm, rfl⟩
    · go_wp2_with (first | (go_at_call 239; rw [← HC.out]; refine (HGC.out).mono ?_; rintro e w1 ⟨rfl, rfl⟩))
      go_roundw
      case rel =>
        refine ⟨i + 1, n + v, by omega, by simp, rfl, by omega, by omega, ?_, rfl⟩
        rw [HR.out, HD.out, widGo, if_neg (by rw [← HV.out]; exact hz), ← HV.out]
      case measure => simp only [toM]; omega
end Go.Proofs.YtdbnddmncbjobaaGreatDoor

/- slices.Grow at nil, slices.Concat at two rows: walked, at each element type (printed by gencat.py). -/
namespace Go.Proofs.YtdbnddmncbjobaaGreatDoor
open Go Go.RowKit

variable {β : Type}
/-- A new row of its own with the elements xs, what they hold in blocks of P. -/
def NewRow (k : Lay β) (e : TypeId) (P : Nat → Prop) (W : World) (xs : List β) (en : Ending) (W' : World) : Prop := ∃ A c, en = .returned (.slice A xs.length c) ∧ k.own e W' W.heap.size P (.slice A xs.length c) xs ∧ Ext W W'
def Cat1 (m1 m2 : Nat) (s3 s11 : Value) : Prop := (s11 = .int .i64 0 ∧ s3 = .int .i64 0) ∨ (s11 = .int .i64 1 ∧ s3 = .int .i64 m1) ∨ (s11 = .int .i64 2 ∧ s3 = .int .i64 ((m1 : Int) + (m2 : Int)))
def Cat2 (k : Lay β) (e : TypeId) (P : Nat → Prop) (W : World) (m1 m2 : Nat) (xs ys : List β) (s6 s27 : Value) (w' : World) : Prop := Ext W w' ∧ ((s27 = .int .i64 0 ∧ k.own e w' W.heap.size P s6 [] ∧ ∃ A c, s6 = .slice A 0 c) ∨
  (s27 = .int .i64 1 ∧ k.own e w' W.heap.size P s6 xs ∧ ∃ A c, s6 = .slice A m1 c) ∨ (s27 = .int .i64 2 ∧ k.own e w' W.heap.size P s6 (xs ++ ys) ∧ ∃ A c, s6 = .slice A (m1 + m2) c))
def upM (v : Value) : Nat := match v with | .int _ z => 2 - z.toNat | _ => 0
/-- append of a row that lies in memory. -/
theorem own_app {k : Lay β} {Pr : Program} {t e : TypeId} {z : Value} {bytes : Nat} (ht : Pr.underlying t = some (.slice e)) (hinfo : (Pr.info? e).map (fun i => (i.zero, i.size, i.bytes)) = some (some z, k.sz, bytes)) (hzs : z.cells.size = k.sz) (hsz : 0 < k.sz) (hby : bytes ≤ 1000)
    {W X : World} {P : Nat → Prop} {v : Value} {xs ys : List β} (h : k.own e X W.heap.size P v xs) (hx : Ext W X) {A : Option Addr} {m : Nat} (hr : k.row W P A m ys) (c : Nat) (hm : xs.length + m ≤ 100000000) :
    ∃ A' c' w', (Builtin.append_ #[t, t] t #[v, .slice A m c]).run Pr X = .ok (.slice A' (xs.length + m) c') w' ∧ k.own e w' W.heap.size P (.slice A' (xs.length + m) c') (xs ++ ys) ∧ Ext W w' := by
  have hlt := Lay.own_lt h
  obtain ⟨ds, h1, h2, h3, h4, h5⟩ := hr
  obtain ⟨A', c', w', r1, r2, r3, _⟩ := Lay.own_append (e := e) ht hinfo hzs hsz hby h (ds' := ds) (ys := ys) (h3.ext hx) h2
    (fun i d x hd hxx => (k.mono (Q := fun j => P j ∧ v.ownBlock ≠ some j) (h5 i d x hd hxx) fun j hj hl => ⟨hj, fun e => by have := (hlt j e).1; omega⟩) |> fun h => k.ext h hx) c hm hx.lt
  exact ⟨A', c', w', r1, r2, Below.trans hx (r3 _ (Nat.le_refl _))⟩

theorem info54 : (Tryz.prog.info? 54).map (fun i => (i.zero, i.size, i.bytes)) = some (some (Value.slice none 0 0), 1, 24) := by kernel_rfl
set_option maxHeartbeats 2000000 in
set_option maxRecDepth 100000 in
theorem grow125 (k : Lay β) (hk : k.sz = 1) (P : Nat → Prop) (n : Nat) (w : World) (hn : n ≤ 100000) : Calls Tryz.prog 125 #[.slice none 0 0, .int .i64 n] w (NewRow k 54 P w []) := by
  by_cases h0 : n = 0
  · subst h0
    go_enter Tryz.func125, Tryz.ntmps125
    go_wp2
    go_ret
    exact ⟨none, 0, rfl, Lay.own_nil _ _ _ _ _, Ext.refl _⟩
  · obtain ⟨i, hi, hz, hs, hb⟩ := info_parts info54
    have hrun := fun W => Lib.run_append_nil_zeros (P := Tryz.prog) W 51 3 51 54 i _ .i64 .i64 Tryz.underlying51 Tryz.underlying3 hi hz n (by omega) (by omega) (by omega) (by rw [hb]; omega)
    have HRUN := Lib.hid hrun
    have hne : ¬ (n : Int) < 0 := by omega
    have hpo : (0 : Int) < (n : Int) := by omega
    clear hrun hi hs hb
    have hz' : (Value.slice none 0 0).cells.size = 1 := rfl
    go_enter Tryz.func125, Tryz.ntmps125
    go_wp2_with (first | (at_builtin; refine Lib.wpList_append_run _ rfl (.tmp 20) (.tmp 21) 51 3 rfl _ _ rfl rfl _ _ (HRUN.out _) ?_))
    go_ret
    refine ⟨_, _, rfl, ⟨[], ⟨by simp [gcells], .inr ⟨w.heap.size, _, _, rfl, Nat.le_refl _, heap_alloc_new w _, Nat.zero_le _, grownCap_le_maxLen _ _ _ _ (by unfold maxLen; omega), ?_, by simp [gcells]⟩⟩, rfl, fun i d x hd => by simp at hd⟩, ((Ext.refl w).alloc _).drew⟩
    have hg := grownCap_ge w n 0 54
    rw [Array.size_append, size_zeroCells, size_zeroCells, hk]
    simp
    omega
set_option maxHeartbeats 4000000 in
set_option maxRecDepth 100000 in
theorem cat72 (k : Lay β) (hk : k.sz = 1) (P : Nat → Prop) (W : World) (g : Nat) (A1 A2 : Option Addr) (n1 n2 c1 c2 : Nat) (xs ys : List β) (h1 : k.row W P A1 n1 xs) (h2 : k.row W P A2 n2 ys) (hl1 : n1 ≤ 10000) (hl2 : n2 ≤ 10000)
    (hg : g < W.heap.size) (hg0 : W.cell? ⟨g, 0, none⟩ = some (.slice A1 n1 c1)) (hg1 : W.cell? ⟨g, 1, none⟩ = some (.slice A2 n2 c2)) :
    Calls Tryz.prog 72 #[.slice (some ⟨g, 0, none⟩) 2 2] W (NewRow k 54 P W (xs ++ ys)) := by
  have e1 := Lay.row_len h1
  have e2 := Lay.row_len h2
  have H1 := Lib.hid h1
  have H2 := Lib.hid h2
  have HGW := Lib.hid (fun W' => (show Calls Tryz.prog 125 #[.slice none 0 0, .int .i64 ((n1 : Int) + (n2 : Int))] W' (NewRow k 54 P W' []) from by
    have := grow125 k hk P (n1 + n2) W' (by omega)
    rwa [Int.natCast_add] at this))
  have HAP := Lib.hid (fun (X : World) (v : Value) (zs ys : List β) (h : k.own 54 X W.heap.size P v zs) (hx : Ext W X) (A : Option Addr) (m : Nat) (hr : k.row W P A m ys) (c : Nat) (hm : zs.length + m ≤ 100000000) =>
    own_app (Pr := Tryz.prog) (t := 51) (z := Value.slice none 0 0) Tryz.underlying51 (by rw [hk]; exact info54) (by rw [hk]; rfl) (by omega) (by omega) h hx hr c hm)
  clear h1 h2
  have HM1 := Lib.hid e1
  have HM2 := Lib.hid e2
  clear e1 e2
  go_enter Tryz.func72, Tryz.ntmps72
  go_wp2_with fail
  go_loop [3, 11] (fun s3 s11 => Cat1 n1 n2 s3 s11) (fun _ s11 => upM s11)
  case atStart => exact .inl ⟨rfl, rfl⟩
  case round =>
    rcases hrel with ⟨rfl, rfl⟩ | ⟨rfl, rfl⟩ | ⟨rfl, rfl⟩
    · go_wp2_with fail
      exact ⟨.inr (.inl ⟨rfl, rfl⟩), by simp [upM]⟩
    · go_wp2_with fail
      exact ⟨.inr (.inr ⟨rfl, rfl⟩), by simp [upM]⟩
    · go_wp2_with (first | (go_at_call 125; refine (HGW.out _).mono ?_; rintro e w1 ⟨A, c, rfl, ho, hx⟩))
      have HX := Lib.hid hx
      have HO := Lib.hid (show k.own 54 w1 W.heap.size P (.slice A 0 c) [] from ho)
      clear ho hx
      go_loopw [6, 27] (fun s6 s27 w' => Cat2 k 54 P W n1 n2 xs ys s6 s27 w') (fun _ s27 _ => upM s27)
      case atStart => exact ⟨HX.out, .inl ⟨rfl, HO.out, _, _, rfl⟩⟩
      case round =>
        obtain ⟨hxr, hrel⟩ := hrel
        have HXR := Lib.hid hxr
        obtain ⟨q, _⟩ := hxr.cells
        have hq0 := (q g 0 hg).trans hg0
        have hq1 := (q g 1 hg).trans hg1
        clear q hxr
        rcases hrel with ⟨rfl, ho, A', c', rfl⟩ | ⟨rfl, ho, A', c', rfl⟩ | ⟨rfl, ho, A', c', rfl⟩
        · obtain ⟨A3, c3, w3, hrun, ho3, hb3⟩ := HAP.out _ _ _ _ ho HXR.out _ _ H1.out c1 (by simp; omega)
          have HO3 := Lib.hid ho3
          have HB3 := Lib.hid hb3
          clear ho ho3 hb3
          go_wp2_with (first | (at_builtin; refine wpList_append_run (s := .tmp 31) (x := .tmp 32) hrun rfl rfl rfl rfl rfl ?_))
          exact ⟨⟨HB3.out, .inr (.inl ⟨rfl, by simpa using HO3.out, A3, c3, by simp⟩)⟩, by simp [upM]⟩
        · obtain ⟨A3, c3, w3, hrun, ho3, hb3⟩ := HAP.out _ _ _ _ ho HXR.out _ _ H2.out c2 (by have := HM1.out; omega)
          have HO3 := Lib.hid ho3
          have HB3 := Lib.hid hb3
          rw [← HM1.out] at hrun
          clear ho ho3 hb3
          go_wp2_with (first | (at_builtin; refine wpList_append_run (s := .tmp 31) (x := .tmp 32) hrun rfl rfl rfl rfl rfl ?_))
          exact ⟨⟨HB3.out, .inr (.inr ⟨rfl, by have := HO3.out; rw [← HM1.out] at this; exact this, A3, c3, rfl⟩)⟩, by simp [upM]⟩
        · have HO := Lib.hid ho
          clear ho
          go_wp2_with fail
          go_ret
          refine ⟨A', c', ?_, ?_, HXR.out⟩
          · rw [List.length_append, ← HM1.out, ← HM2.out]; rfl
          · rw [List.length_append, ← HM1.out, ← HM2.out]; exact HO.out

theorem info86 : (Tryz.prog.info? 86).map (fun i => (i.zero, i.size, i.bytes)) = some (some (Value.agg #[.int .i64 0, .int .i64 0, .slice none 0 0, .slice none 0 0]), 4, 64) := by kernel_rfl
set_option maxHeartbeats 2000000 in
set_option maxRecDepth 100000 in
theorem grow110 (k : Lay β) (hk : k.sz = 4) (P : Nat → Prop) (n : Nat) (w : World) (hn : n ≤ 100000) : Calls Tryz.prog 110 #[.slice none 0 0, .int .i64 n] w (NewRow k 86 P w []) := by
  by_cases h0 : n = 0
  · subst h0
    go_enter Tryz.func110, Tryz.ntmps110
    go_wp2
    go_ret
    exact ⟨none, 0, rfl, Lay.own_nil _ _ _ _ _, Ext.refl _⟩
  · obtain ⟨i, hi, hz, hs, hb⟩ := info_parts info86
    have hrun := fun W => Lib.run_append_nil_zeros (P := Tryz.prog) W 82 3 82 86 i _ .i64 .i64 Tryz.underlying82 Tryz.underlying3 hi hz n (by omega) (by omega) (by omega) (by rw [hb]; omega)
    have HRUN := Lib.hid hrun
    have hne : ¬ (n : Int) < 0 := by omega
    have hpo : (0 : Int) < (n : Int) := by omega
    clear hrun hi hs hb
    have hz' : (Value.agg #[.int .i64 0, .int .i64 0, .slice none 0 0, .slice none 0 0]).cells.size = 4 := rfl
    go_enter Tryz.func110, Tryz.ntmps110
    go_wp2_with (first | (at_builtin; refine Lib.wpList_append_run _ rfl (.tmp 20) (.tmp 21) 82 3 rfl _ _ rfl rfl _ _ (HRUN.out _) ?_))
    go_ret
    refine ⟨_, _, rfl, ⟨[], ⟨by simp [gcells], .inr ⟨w.heap.size, _, _, rfl, Nat.le_refl _, heap_alloc_new w _, Nat.zero_le _, grownCap_le_maxLen _ _ _ _ (by unfold maxLen; omega), ?_, by simp [gcells]⟩⟩, rfl, fun i d x hd => by simp at hd⟩, ((Ext.refl w).alloc _).drew⟩
    have hg := grownCap_ge w n 0 86
    rw [Array.size_append, size_zeroCells, size_zeroCells, hk]
    simp
    omega
set_option maxHeartbeats 4000000 in
set_option maxRecDepth 100000 in
theorem cat56 (k : Lay β) (hk : k.sz = 4) (P : Nat → Prop) (W : World) (g : Nat) (A1 A2 : Option Addr) (n1 n2 c1 c2 : Nat) (xs ys : List β) (h1 : k.row W P A1 n1 xs) (h2 : k.row W P A2 n2 ys) (hl1 : n1 ≤ 10000) (hl2 : n2 ≤ 10000)
    (hg : g < W.heap.size) (hg0 : W.cell? ⟨g, 0, none⟩ = some (.slice A1 n1 c1)) (hg1 : W.cell? ⟨g, 1, none⟩ = some (.slice A2 n2 c2)) :
    Calls Tryz.prog 56 #[.slice (some ⟨g, 0, none⟩) 2 2] W (NewRow k 86 P W (xs ++ ys)) := by
  have e1 := Lay.row_len h1
  have e2 := Lay.row_len h2
  have H1 := Lib.hid h1
  have H2 := Lib.hid h2
  have HGW := Lib.hid (fun W' => (show Calls Tryz.prog 110 #[.slice none 0 0, .int .i64 ((n1 : Int) + (n2 : Int))] W' (NewRow k 86 P W' []) from by
    have := grow110 k hk P (n1 + n2) W' (by omega)
    rwa [Int.natCast_add] at this))
  have HAP := Lib.hid (fun (X : World) (v : Value) (zs ys : List β) (h : k.own 86 X W.heap.size P v zs) (hx : Ext W X) (A : Option Addr) (m : Nat) (hr : k.row W P A m ys) (c : Nat) (hm : zs.length + m ≤ 100000000) =>
    own_app (Pr := Tryz.prog) (t := 82) (z := Value.agg #[.int .i64 0, .int .i64 0, .slice none 0 0, .slice none 0 0]) Tryz.underlying82 (by rw [hk]; exact info86) (by rw [hk]; rfl) (by omega) (by omega) h hx hr c hm)
  clear h1 h2
  have HM1 := Lib.hid e1
  have HM2 := Lib.hid e2
  clear e1 e2
  go_enter Tryz.func56, Tryz.ntmps56
  go_wp2_with fail
  go_loop [3, 11] (fun s3 s11 => Cat1 n1 n2 s3 s11) (fun _ s11 => upM s11)
  case atStart => exact .inl ⟨rfl, rfl⟩
  case round =>
    rcases hrel with ⟨rfl, rfl⟩ | ⟨rfl, rfl⟩ | ⟨rfl, rfl⟩
    · go_wp2_with fail
      exact ⟨.inr (.inl ⟨rfl, rfl⟩), by simp [upM]⟩
    · go_wp2_with fail
      exact ⟨.inr (.inr ⟨rfl, rfl⟩), by simp [upM]⟩
    · go_wp2_with (first | (go_at_call 110; refine (HGW.out _).mono ?_; rintro e w1 ⟨A, c, rfl, ho, hx⟩))
      have HX := Lib.hid hx
      have HO := Lib.hid (show k.own 86 w1 W.heap.size P (.slice A 0 c) [] from ho)
      clear ho hx
      go_loopw [6, 27] (fun s6 s27 w' => Cat2 k 86 P W n1 n2 xs ys s6 s27 w') (fun _ s27 _ => upM s27)
      case atStart => exact ⟨HX.out, .inl ⟨rfl, HO.out, _, _, rfl⟩⟩
      case round =>
        obtain ⟨hxr, hrel⟩ := hrel
        have HXR := Lib.hid hxr
        obtain ⟨q, _⟩ := hxr.cells
        have hq0 := (q g 0 hg).trans hg0
        have hq1 := (q g 1 hg).trans hg1
        clear q hxr
        rcases hrel with ⟨rfl, ho, A', c', rfl⟩ | ⟨rfl, ho, A', c', rfl⟩ | ⟨rfl, ho, A', c', rfl⟩
        · obtain ⟨A3, c3, w3, hrun, ho3, hb3⟩ := HAP.out _ _ _ _ ho HXR.out _ _ H1.out c1 (by simp; omega)
          have HO3 := Lib.hid ho3
          have HB3 := Lib.hid hb3
          clear ho ho3 hb3
          go_wp2_with (first | (at_builtin; refine wpList_append_run (s := .tmp 31) (x := .tmp 32) hrun rfl rfl rfl rfl rfl ?_))
          exact ⟨⟨HB3.out, .inr (.inl ⟨rfl, by simpa using HO3.out, A3, c3, by simp⟩)⟩, by simp [upM]⟩
        · obtain ⟨A3, c3, w3, hrun, ho3, hb3⟩ := HAP.out _ _ _ _ ho HXR.out _ _ H2.out c2 (by have := HM1.out; omega)
          have HO3 := Lib.hid ho3
          have HB3 := Lib.hid hb3
          rw [← HM1.out] at hrun
          clear ho ho3 hb3
          go_wp2_with (first | (at_builtin; refine wpList_append_run (s := .tmp 31) (x := .tmp 32) hrun rfl rfl rfl rfl rfl ?_))
          exact ⟨⟨HB3.out, .inr (.inr ⟨rfl, by have := HO3.out; rw [← HM1.out] at this; exact this, A3, c3, rfl⟩)⟩, by simp [upM]⟩
        · have HO := Lib.hid ho
          clear ho
          go_wp2_with fail
          go_ret
          refine ⟨A', c', ?_, ?_, HXR.out⟩
          · rw [List.length_append, ← HM1.out, ← HM2.out]; rfl
          · rw [List.length_append, ← HM1.out, ← HM2.out]; exact HO.out

theorem info99 : (Tryz.prog.info? 99).map (fun i => (i.zero, i.size, i.bytes)) = some (some (Value.agg #[.string ⟨#[]⟩, .slice none 0 0]), 2, 40) := by kernel_rfl
set_option maxHeartbeats 2000000 in
set_option maxRecDepth 100000 in
theorem grow123 (k : Lay β) (hk : k.sz = 2) (P : Nat → Prop) (n : Nat) (w : World) (hn : n ≤ 100000) : Calls Tryz.prog 123 #[.slice none 0 0, .int .i64 n] w (NewRow k 99 P w []) := by
  by_cases h0 : n = 0
  · subst h0
    go_enter Tryz.func123, Tryz.ntmps123
    go_wp2
    go_ret
    exact ⟨none, 0, rfl, Lay.own_nil _ _ _ _ _, Ext.refl _⟩
  · obtain ⟨i, hi, hz, hs, hb⟩ := info_parts info99
    have hrun := fun W => Lib.run_append_nil_zeros (P := Tryz.prog) W 33 3 33 99 i _ .i64 .i64 Tryz.underlying33 Tryz.underlying3 hi hz n (by omega) (by omega) (by omega) (by rw [hb]; omega)
    have HRUN := Lib.hid hrun
    have hne : ¬ (n : Int) < 0 := by omega
    have hpo : (0 : Int) < (n : Int) := by omega
    clear hrun hi hs hb
    have hz' : (Value.agg #[.string ⟨#[]⟩, .slice none 0 0]).cells.size = 2 := rfl
    go_enter Tryz.func123, Tryz.ntmps123
    go_wp2_with (first | (at_builtin; refine Lib.wpList_append_run _ rfl (.tmp 20) (.tmp 21) 33 3 rfl _ _ rfl rfl _ _ (HRUN.out _) ?_))
    go_ret
    refine ⟨_, _, rfl, ⟨[], ⟨by simp [gcells], .inr ⟨w.heap.size, _, _, rfl, Nat.le_refl _, heap_alloc_new w _, Nat.zero_le _, grownCap_le_maxLen _ _ _ _ (by unfold maxLen; omega), ?_, by simp [gcells]⟩⟩, rfl, fun i d x hd => by simp at hd⟩, ((Ext.refl w).alloc _).drew⟩
    have hg := grownCap_ge w n 0 99
    rw [Array.size_append, size_zeroCells, size_zeroCells, hk]
    simp
    omega
set_option maxHeartbeats 4000000 in
set_option maxRecDepth 100000 in
theorem cat70 (k : Lay β) (hk : k.sz = 2) (P : Nat → Prop) (W : World) (g : Nat) (A1 A2 : Option Addr) (n1 n2 c1 c2 : Nat) (xs ys : List β) (h1 : k.row W P A1 n1 xs) (h2 : k.row W P A2 n2 ys) (hl1 : n1 ≤ 10000) (hl2 : n2 ≤ 10000)
    (hg : g < W.heap.size) (hg0 : W.cell? ⟨g, 0, none⟩ = some (.slice A1 n1 c1)) (hg1 : W.cell? ⟨g, 1, none⟩ = some (.slice A2 n2 c2)) :
    Calls Tryz.prog 70 #[.slice (some ⟨g, 0, none⟩) 2 2] W (NewRow k 99 P W (xs ++ ys)) := by
  have e1 := Lay.row_len h1
  have e2 := Lay.row_len h2
  have H1 := Lib.hid h1
  have H2 := Lib.hid h2
  have HGW := Lib.hid (fun W' => (show Calls Tryz.prog 123 #[.slice none 0 0, .int .i64 ((n1 : Int) + (n2 : Int))] W' (NewRow k 99 P W' []) from by
    have := grow123 k hk P (n1 + n2) W' (by omega)
    rwa [Int.natCast_add] at this))
  have HAP := Lib.hid (fun (X : World) (v : Value) (zs ys : List β) (h : k.own 99 X W.heap.size P v zs) (hx : Ext W X) (A : Option Addr) (m : Nat) (hr : k.row W P A m ys) (c : Nat) (hm : zs.length + m ≤ 100000000) =>
    own_app (Pr := Tryz.prog) (t := 33) (z := Value.agg #[.string ⟨#[]⟩, .slice none 0 0]) Tryz.underlying33 (by rw [hk]; exact info99) (by rw [hk]; rfl) (by omega) (by omega) h hx hr c hm)
  clear h1 h2
  have HM1 := Lib.hid e1
  have HM2 := Lib.hid e2
  clear e1 e2
  go_enter Tryz.func70, Tryz.ntmps70
  go_wp2_with fail
  go_loop [3, 11] (fun s3 s11 => Cat1 n1 n2 s3 s11) (fun _ s11 => upM s11)
  case atStart => exact .inl ⟨rfl, rfl⟩
  case round =>
    rcases hrel with ⟨rfl, rfl⟩ | ⟨rfl, rfl⟩ | ⟨rfl, rfl⟩
    · go_wp2_with fail
      exact ⟨.inr (.inl ⟨rfl, rfl⟩), by simp [upM]⟩
    · go_wp2_with fail
      exact ⟨.inr (.inr ⟨rfl, rfl⟩), by simp [upM]⟩
    · go_wp2_with (first | (go_at_call 123; refine (HGW.out _).mono ?_; rintro e w1 ⟨A, c, rfl, ho, hx⟩))
      have HX := Lib.hid hx
      have HO := Lib.hid (show k.own 99 w1 W.heap.size P (.slice A 0 c) [] from ho)
      clear ho hx
      go_loopw [6, 27] (fun s6 s27 w' => Cat2 k 99 P W n1 n2 xs ys s6 s27 w') (fun _ s27 _ => upM s27)
      case atStart => exact ⟨HX.out, .inl ⟨rfl, HO.out, _, _, rfl⟩⟩
      case round =>
        obtain ⟨hxr, hrel⟩ := hrel
        have HXR := Lib.hid hxr
        obtain ⟨q, _⟩ := hxr.cells
        have hq0 := (q g 0 hg).trans hg0
        have hq1 := (q g 1 hg).trans hg1
        clear q hxr
        rcases hrel with ⟨rfl, ho, A', c', rfl⟩ | ⟨rfl, ho, A', c', rfl⟩ | ⟨rfl, ho, A', c', rfl⟩
        · obtain ⟨A3, c3, w3, hrun, ho3, hb3⟩ := HAP.out _ _ _ _ ho HXR.out _ _ H1.out c1 (by simp; omega)
          have HO3 := Lib.hid ho3
          have HB3 := Lib.hid hb3
          clear ho ho3 hb3
          go_wp2_with (first | (at_builtin; refine wpList_append_run (s := .tmp 31) (x := .tmp 32) hrun rfl rfl rfl rfl rfl ?_))
          exact ⟨⟨HB3.out, .inr (.inl ⟨rfl, by simpa using HO3.out, A3, c3, by simp⟩)⟩, by simp [upM]⟩
        · obtain ⟨A3, c3, w3, hrun, ho3, hb3⟩ := HAP.out _ _ _ _ ho HXR.out _ _ H2.out c2 (by have := HM1.out; omega)
          have HO3 := Lib.hid ho3
          have HB3 := Lib.hid hb3
          rw [← HM1.out] at hrun
          clear ho ho3 hb3
          go_wp2_with (first | (at_builtin; refine wpList_append_run (s := .tmp 31) (x := .tmp 32) hrun rfl rfl rfl rfl rfl ?_))
          exact ⟨⟨HB3.out, .inr (.inr ⟨rfl, by have := HO3.out; rw [← HM1.out] at this; exact this, A3, c3, rfl⟩)⟩, by simp [upM]⟩
        · have HO := Lib.hid ho
          clear ho
          go_wp2_with fail
          go_ret
          refine ⟨A', c', ?_, ?_, HXR.out⟩
          · rw [List.length_append, ← HM1.out, ← HM2.out]; rfl
          · rw [List.length_append, ← HM1.out, ← HM2.out]; exact HO.out
end Go.Proofs.YtdbnddmncbjobaaGreatDoor

/- Arrays of numbers of the call's own; append of one element. -/
namespace Go.Proofs.YtdbnddmncbjobaaGreatDoor
open Go Go.RowKit

variable {β : Type}
/-- The block b holds the numbers l. -/
def Arr (w : World) (b : Nat) (l : List Int) : Prop := w.heap[b]? = some (.cells (l.map (Value.int .i64)).toArray 3 (0, 0))
theorem Arr.lt {w : World} {b : Nat} {l : List Int} (h : Arr w b l) : b < w.heap.size := lt_of_block h
theorem Arr.cell {w : World} {b : Nat} {l : List Int} (h : Arr w b l) {i : Nat} {x : Int} (hi : l[i]? = some x) : w.cell? ⟨b, i, none⟩ = some (.int .i64 x) := by
  unfold Arr at h
  unfold World.cell?
  simp only [h]
  simp [hi]
theorem Arr.frozen {w : World} {b : Nat} {l : List Int} (h : Arr w b l) (i : Nat) : w.frozen? ⟨b, i, none⟩ = false := by
  unfold Arr at h
  unfold World.frozen?
  simp only [h]
  simp
theorem Arr.set {w : World} {b : Nat} {l : List Int} (h : Arr w b l) (i : Nat) (x : Int) : Arr (w.setCell ⟨b, i, none⟩ (.int .i64 x)) b (l.set i x) := by
  unfold Arr at h ⊢
  rw [heap_setCell_same w b i _ 3 _ h]
  simp [List.map_set]
theorem Arr.other {w : World} {b : Nat} {l : List Int} (h : Arr w b l) {a : Addr} (hn : b ≠ a.block) (u : Value) : Arr (w.setCell a u) b l := by
  unfold Arr at h ⊢
  rw [heap_setCell_other w a b u hn]; exact h
theorem Arr.keep {w w' : World} {b : Nat} {l : List Int} (h : Arr w b l) (hk : w'.heap[b]? = w.heap[b]?) : Arr w' b l := by
  unfold Arr at h ⊢
  rw [hk]; exact h
theorem Arr.ext {w w' : World} {b : Nat} {l : List Int} (h : Arr w b l) (hx : Ext w w') : Arr w' b l := by
  unfold Arr at h ⊢
  rw [hx.block b (lt_of_block h)]; exact h
def iCs (x : Int) : Cs kInt.sz := ⟨[.int .i64 x], rfl, fun u hu => by simp only [List.mem_singleton] at hu; subst hu; rfl⟩
theorem iCs_at {l : List Int} {i : Nat} {d : Cs kInt.sz} (h : (l.map iCs)[i]? = some d) : ∃ x, l[i]? = some x ∧ d = iCs x := by
  induction l generalizing i with
  | nil => cases i <;> cases h
  | cons a r ih =>
    cases i with
    | zero => injection h with h; exact ⟨a, rfl, h.symm⟩
    | succ i => exact ih h
theorem Arr.row {w : World} {b : Nat} {l : List Int} (h : Arr w b l) (P : Nat → Prop) (hP : P b) : kInt.row w P (some ⟨b, 0, none⟩) l.length l := by
  refine ⟨l.map iCs, rfl, List.length_map .., ⟨(List.length_map ..).symm, fun _ => ⟨b, 0, rfl, h.lt, fun i a hi j u hu => ?_⟩⟩, fun x hx => ?_, fun i d x hd hx => ?_⟩
  · obtain ⟨x, hl, rfl⟩ := iCs_at hi
    cases j with
    | zero =>
      injection hu with hu
      subst hu
      rw [show kInt.sz = 1 from rfl, show 0 + i * 1 + 0 = i by omega]
      exact h.cell hl
    | succ j => cases hu
  · injection hx with hx; subst hx; exact ⟨hP, h.lt⟩
  · obtain ⟨y, hl, rfl⟩ := iCs_at hd
    rw [hl] at hx
    injection hx with hx
    subst hx
    rfl
theorem Arr.made (w : World) (n : Nat) : Arr (w.alloc (.cells (Array.replicate n (.int .i64 0)) 3)) w.heap.size (List.replicate n 0) := by
  unfold Arr
  rw [heap_alloc_new w]
  simp
/-- append of one element, whose cells lie in a new block. -/
theorem own_app1 {k : Lay β} {Pr : Program} {t e : TypeId} {z : Value} {bytes : Nat} (ht : Pr.underlying t = some (.slice e)) (hinfo : (Pr.info? e).map (fun i => (i.zero, i.size, i.bytes)) = some (some z, k.sz, bytes)) (hzs : z.cells.size = k.sz) (hsz : 0 < k.sz) (hby : bytes ≤ 1000)
    {base : Nat} {X : World} {P : Nat → Prop} {v : Value} {xs : List β} (h : k.own e X base P v xs) (hb : base ≤ X.heap.size) {cs : Array Value} {T : TypeId} {x : β} (hr : k.rep X (fun j => P j ∧ v.ownBlock ≠ some j) x cs.toList) (c : Nat) (hm : xs.length < 100000000) :
    ∃ A' c' w', (Builtin.append_ #[t, t] t #[v, .slice (some ⟨X.heap.size, 0, none⟩) 1 c]).run Pr (X.alloc (.cells cs T)) = .ok (.slice A' (xs.length + 1) c') w' ∧ k.own e w' base P (.slice A' (xs.length + 1) c') (xs ++ [x]) ∧ (∀ B, B ≤ base → Below B X w') ∧
      (∀ j, j < X.heap.size → v.ownBlock ≠ some j → w'.heap[j]? = X.heap[j]?) ∧ X.heap.size ≤ w'.heap.size ∧ (∀ j, (Value.slice A' (xs.length + 1) c').ownBlock = some j → v.ownBlock = some j ∨ X.heap.size ≤ j) := by
  have hx1 : Ext X (X.alloc (.cells cs T)) := (Ext.refl X).alloc _
  have h' := Lay.own_ext h hx1
  obtain ⟨d0, hd0⟩ : ∃ d0 : Cs k.sz, ccf d0 = cs.toList := ⟨⟨cs.toList, k.len hr, k.one hr⟩, rfl⟩
  have hr' : k.rep X (fun j => P j ∧ v.ownBlock ≠ some j) x (ccf d0) := by rw [hd0]; exact hr
  obtain ⟨A', c', w', r1, r2, r3, r4, r5, r6⟩ := Lay.own_append (e := e) ht hinfo hzs hsz hby h' (A := some ⟨X.heap.size, 0, none⟩) (m := 1) (ds' := [d0]) (ys := [x]) (SL.one X d0 cs hd0.symm T) rfl
    (fun i d y hd hy => by
      cases i with
      | zero =>
        injection hd with hd
        injection hy with hy
        subst hd hy
        exact k.ext hr' hx1
      | succ i => cases hd) c (by omega) (Nat.le_trans hb hx1.lt)
  refine ⟨A', c', w', r1, r2, fun B hB => ?_, fun j hj hne => ?_, Nat.le_trans hx1.lt r5, fun j hj => ?_⟩
  · exact ((Below.refl B X).alloc (Nat.le_trans hB hb) _).trans (r3 B hB)
  · rw [r4 j (Nat.lt_of_lt_of_le hj hx1.lt) hne]; exact hx1.block j hj
  · rcases r6 j hj with h6 | h6
    · exact .inl h6
    · exact .inr (Nat.le_trans hx1.lt h6)
/-- Where lines of so many words end. -/
def cum : Int → List Nat → List Int
  | _, [] => []
  | f, l :: ls => (f + l) :: cum (f + l) ls
theorem cum_len (f : Int) (l : List Nat) : (cum f l).length = l.length := by
  induction l generalizing f with
  | nil => rfl
  | cons a r ih => simp [cum, ih]
theorem dwl' {γ : Type} (xs : List γ) {i : Nat} {p : γ} (h : xs[i]? = some p) : xs.drop i = p :: xs.drop (i + 1) := by
  have hl := (List.getElem?_eq_some_iff.1 h).1
  rw [List.drop_eq_getElem_cons hl]
  congr 1
  rw [List.getElem?_eq_getElem hl] at h
  exact Option.some.inj h
theorem chkWs_inv {b : Bool} {nn k : Int} {w : Wd} {r : List Wd} {k1 : Int} (h : chkWs b nn (w :: r) k = .inr k1) :
    validW w.s = true ∧ (w.key = [] ∨ validW w.key = true) ∧ (w.tb = 0 ∨ w.tb = 1) ∧ (w.nt = 0 ∧ chkWs b nn r k = .inr k1 ∨ w.nt ≠ 0 ∧ b = true ∧ w.nt = k + 1 ∧ k + 1 ≤ nn ∧ chkWs b nn r (k + 1) = .inr k1) := by
  simp only [chkWs] at h
  split at h
  · cases h
  · next h1 =>
    simp only [Bool.or_eq_true, Bool.not_eq_true', not_or, Bool.not_eq_false, Bool.and_eq_true, decide_eq_true_eq, not_and, ne_eq] at h1
    split at h
    · cases h
    · next h2 =>
      refine ⟨h1.1, ?_, by omega, ?_⟩
      · by_cases hk : w.key = []
        · exact .inl hk
        · exact .inr (h1.2 hk)
      · split at h
        · next h3 =>
          split at h
          · cases h
          · next h4 =>
            cases b with
            | false => simp at h4
            | true => exact .inr ⟨h3, rfl, by omega, by omega, h⟩
        · next h3 => exact .inl ⟨by omega, h⟩
end Go.Proofs.YtdbnddmncbjobaaGreatDoor

/- The contracts of the reference's generator of words: one, part. -/
namespace Go.Proofs.YtdbnddmncbjobaaGreatDoor
open Go Go.RowKit

def wcf (w : Wd) : List Value := [.string ⟨w.s.toArray⟩, .string ⟨w.key.toArray⟩, .int .i64 w.tb, .int .i64 w.nt]
theorem wcf_len (a : Wd) : (wcf a).length = 4 := rfl
def OkN (v : Wd) : Prop := OkW v ∧ v.nt = 0
def OkS (s : List UInt8) : Prop := validW s = true ∧ s.length ≤ 40
/-- A row of strings that are words. -/
def StrBox (W : World) (b n : Nat) : Prop := ∀ k, k < n → ∃ s : List UInt8, W.cell? ⟨b, k, none⟩ = some (.string ⟨s.toArray⟩) ∧ OkS s
theorem StrBox.of (W : World) (l : List (List UInt8)) (hl : ∀ s ∈ l, OkS s) : StrBox (W.alloc (.cells (l.map (fun s => Value.string ⟨s.toArray⟩)).toArray 9)) W.heap.size l.length := fun k hk => by
  refine ⟨l[k], ?_, hl _ (List.getElem_mem hk)⟩
  rw [cell_of_row _ W.heap.size _ _ 9 (0, 0) (heap_alloc_new W _)]
  simp [hk]
/-- A word in a block of its own, not frozen. -/
structure WBox (W : World) (b : Nat) (s k : ByteArray) (t n : Int) : Prop where
  lt : b < W.heap.size
  c0 : W.cell? ⟨b, 0, none⟩ = some (.string s)
  c1 : W.cell? ⟨b, 1, none⟩ = some (.string k)
  c2 : W.cell? ⟨b, 2, none⟩ = some (.int .i64 t)
  c3 : W.cell? ⟨b, 3, none⟩ = some (.int .i64 n)
  f0 : W.frozen? ⟨b, 0, none⟩ = false
  f1 : W.frozen? ⟨b, 1, none⟩ = false
  f2 : W.frozen? ⟨b, 2, none⟩ = false
  f3 : W.frozen? ⟨b, 3, none⟩ = false
theorem WBox.ext {W W' : World} {b : Nat} {s k : ByteArray} {t n : Int} (h : WBox W b s k t n) (hx : Ext W W') : WBox W' b s k t n := by
  obtain ⟨q, p⟩ := hx.cells
  exact ⟨Nat.lt_of_lt_of_le h.lt hx.lt, by rw [q _ _ h.lt]; exact h.c0, by rw [q _ _ h.lt]; exact h.c1, by rw [q _ _ h.lt]; exact h.c2, by rw [q _ _ h.lt]; exact h.c3,
    by rw [p _ _ h.lt]; exact h.f0, by rw [p _ _ h.lt]; exact h.f1, by rw [p _ _ h.lt]; exact h.f2, by rw [p _ _ h.lt]; exact h.f3⟩
theorem WBox.new (W : World) (s k : ByteArray) (t n : Int) (ty : TypeId) : WBox (W.alloc (.cells #[.string s, .string k, .int .i64 t, .int .i64 n] ty)) W.heap.size s k t n :=
  ⟨by simp, by go_simp, by go_simp, by go_simp, by go_simp, by go_simp, by go_simp, by go_simp, by go_simp⟩
end Go.Proofs.YtdbnddmncbjobaaGreatDoor

/- The contracts of Pick, part. -/
namespace Go.Proofs.YtdbnddmncbjobaaGreatDoor
open Go Go.RowKit

theorem neg_tmod_in (n m : Int) (h : n < 0) (h3 : 1 ≤ m) : (n + 1).tmod m ≤ 0 ∧ -(n + 1).tmod m < m := by
  have e : -((n + 1).tmod m) = (-(n + 1)) % m := by rw [← Int.neg_tmod, Int.tmod_eq_emod_of_nonneg (by omega)]
  have hb1 := Int.emod_nonneg (-(n + 1)) (show m ≠ 0 by omega)
  have hb2 := Int.emod_lt_of_pos (-(n + 1)) (show 0 < m by omega)
  omega
def arnd (n m : Int) : Int := (if n < 0 then -(n + 1) else n) % m
theorem arnd_in (n m : Int) (h : 1 ≤ m) : 0 ≤ arnd n m ∧ arnd n m < m :=
  ⟨Int.emod_nonneg _ (by omega), Int.emod_lt_of_pos _ (by omega)⟩
theorem arnd_neg {n m : Int} (h : n < 0) : -((n + 1).tmod m) = arnd n m := by
  unfold arnd
  rw [if_pos h, ← Int.neg_tmod, Int.tmod_eq_emod_of_nonneg (by omega)]
theorem arnd_pos {n m : Int} (h : ¬ n < 0) : n % m = arnd n m := by unfold arnd; rw [if_neg h]
theorem SL.at {α : Type} {cf : α → List Value} {sz : Nat} {W : World} {A : Option Addr} {m : Nat} {l : List α} (h : SL cf sz W A m l) {k : Nat} (hk : k < m) :
    ∃ b off a, A = some ⟨b, off, none⟩ ∧ b < W.heap.size ∧ l[k]? = some a ∧ a ∈ l ∧ ∀ j u, (cf a)[j]? = some u → W.cell? ⟨b, off + k * sz + j, none⟩ = some u := by
  obtain ⟨b, off, rfl, hb, hc⟩ := h.2 (by omega)
  have hl : k < l.length := by rw [← h.1]; exact hk
  exact ⟨b, off, l[k], rfl, hb, List.getElem?_eq_getElem hl, List.getElem_mem hl, fun j u hu => hc k _ (List.getElem?_eq_getElem hl) j u hu⟩
theorem around_nat (n : Int) (m : Nat) (h3 : 1 ≤ m) : ∃ k : Nat, arnd n m = k ∧ k < m := by
  obtain ⟨a, b⟩ := arnd_in n m (by omega)
  exact ⟨(arnd n m).toNat, by omega, by omega⟩
def icf (n : Int) : List Value := [.int .i64 n]
/-- What Pick answers. -/
def pkI (l : List Int) (i m : Nat) : Int := match l[i]? with | some n => arnd n m | none => 0
theorem pk_nat (l : List Int) (i m : Nat) (h : 1 ≤ m) : ∃ k : Nat, pkI l i m = k ∧ k < m := by
  unfold pkI
  cases l[i]? with
  | none => exact ⟨0, rfl, by omega⟩
  | some n => exact around_nat n m h
/-- A paragraph in a block of its own. -/
def GpPost (W : World) (m : Nat) (e : Ending) (W' : World) : Prop := ∃ (A : Option Addr) (c : Nat) (l : List Wd), e = .returned (.slice A l.length c) ∧ OL wcf 4 W' W.heap.size 60 (.slice A l.length c) l ∧ 1 ≤ l.length ∧ l.length ≤ m ∧ (∀ v ∈ l, OkN v) ∧ Ext W W'
end Go.Proofs.YtdbnddmncbjobaaGreatDoor

/- Rows of words by their blocks; the contracts of refer and last. -/
namespace Go.Proofs.YtdbnddmncbjobaaGreatDoor
open Go Go.RowKit

/-- The block g holds the words l, and is not frozen. -/
def WRow (W : World) (g : Nat) (l : List Wd) : Prop := ∃ cs t, W.heap[g]? = some (.cells cs t (0, 0)) ∧ ∀ (k : Nat) (v : Wd), l[k]? = some v → ∀ j u, (wcf v)[j]? = some u → cs[k * 4 + j]? = some u
theorem WRow.same {W W' : World} {g : Nat} {l : List Wd} (h : WRow W g l) (he : W'.heap[g]? = W.heap[g]?) : WRow W' g l := by
  obtain ⟨cs, t, h1, h2⟩ := h
  exact ⟨cs, t, he.trans h1, h2⟩
theorem WRow.lt {W : World} {g : Nat} {l : List Wd} (h : WRow W g l) : g < W.heap.size := by
  obtain ⟨cs, t, h1, _⟩ := h
  exact lt_of_block h1
theorem WRow.ext {W W' : World} {g : Nat} {l : List Wd} (h : WRow W g l) (hx : Ext W W') : WRow W' g l := h.same (hx.block g h.lt)
theorem WRow.cell {W : World} {g : Nat} {l : List Wd} (h : WRow W g l) {k : Nat} {v : Wd} (hk : l[k]? = some v) {j : Nat} {u : Value} (hu : (wcf v)[j]? = some u) : W.cell? ⟨g, k * 4 + j, none⟩ = some u := by
  obtain ⟨cs, t, h1, h2⟩ := h
  rw [cell_of_row W g _ cs t (0, 0) h1]; exact h2 k v hk j u hu
theorem heap_set_other (W : World) (p : Addr) (u : Value) (k : Nat) (h : p.block ≠ k) : (W.setCell p u).heap[k]? = W.heap[k]? := by
  simp [World.setCell, Array.getElem?_modify, h]
theorem WRow.set {W : World} {g : Nat} {l : List Wd} (h : WRow W g l) {k : Nat} {v v' : Wd} (hk : l[k]? = some v) {j : Nat} {u : Value} (hj : j < 4) (hv : wcf v' = (wcf v).set j u) : WRow (W.setCell ⟨g, k * 4 + j, none⟩ u) g (l.set k v') := by
  have h0 := h
  obtain ⟨cs, t, h1, h2⟩ := h
  refine ⟨cs.setIfInBounds (k * 4 + j) u, t, ?_, fun i x hi j' u' hu' => ?_⟩
  · simp [World.setCell, Array.getElem?_modify, h1]
  · have hkl : k < l.length := (List.getElem?_eq_some_iff.1 hk).1
    have hj4 : j' < 4 := by have := (List.getElem?_eq_some_iff.1 hu').1; simpa [wcf] using this
    by_cases hik : i = k
    · subst hik
      rw [List.getElem?_set_self hkl] at hi
      obtain rfl := Option.some.inj hi
      rw [hv, List.getElem?_set] at hu'
      by_cases hjj : j = j'
      · subst hjj
        rw [if_pos rfl, if_pos (by simp [wcf]; exact hj)] at hu'
        rw [Array.getElem?_setIfInBounds, if_pos rfl]
        have hc : cs[i * 4 + j]?.isSome = true := by
          have : ∃ a, (wcf v)[j]? = some a := ⟨_, List.getElem?_eq_getElem (by simp [wcf]; exact hj)⟩
          obtain ⟨a, ha⟩ := this
          rw [h2 i v hk j a ha]; rfl
        have hlt : i * 4 + j < cs.size := by
          rcases Nat.lt_or_ge (i * 4 + j) cs.size with h | h
          · exact h
          · rw [Array.getElem?_eq_none h] at hc; cases hc
        rw [if_pos hlt]; exact hu'
      · rw [if_neg hjj] at hu'
        rw [Array.getElem?_setIfInBounds, if_neg (by omega)]
        exact h2 i v hk j' u' hu'
    · rw [List.getElem?_set_ne (fun e => hik e.symm)] at hi
      rw [Array.getElem?_setIfInBounds, if_neg (by omega)]
      exact h2 i x hi j' u' hu'
/-- A slice as plain data. -/
structure Sl where
  A : Option Addr
  n : Nat
  c : Nat
def Sl.val (s : Sl) : Value := .slice s.A s.n s.c
def slc (s : Sl) : List Value := [s.val]
theorem slc_len (a : Sl) : (slc a).length = 1 := rfl
theorem slc_one (a : Sl) : ∀ u ∈ slc a, u.oneCell' = true := fun u hu => by
  obtain rfl : u = a.val := by simpa [slc] using hu
  rfl
theorem OL.base {α : Type} {cf : α → List Value} {sz : Nat} {w : World} {base base' : Nat} {e : TypeId} {v : Value} {l : List α} (h : OL cf sz w base e v l) (hb : base' ≤ base) : OL cf sz w base' e v l := by
  refine ⟨h.1, ?_⟩
  rcases h.2 with h2 | ⟨g, cap, cur, h1, h2, h3⟩
  · exact .inl h2
  · exact .inr ⟨g, cap, cur, h1, Nat.le_trans hb h2, h3⟩
end Go.Proofs.YtdbnddmncbjobaaGreatDoor

/- Rows of rows of words, apart from each other: Paras and Notes. -/
namespace Go.Proofs.YtdbnddmncbjobaaGreatDoor
open Go Go.RowKit

/-- A paragraph: its block, its capacity, its words. -/
structure Pq where
  g : Nat
  c : Nat
  l : List Wd
def Pq.sl (p : Pq) : Sl := ⟨some ⟨p.g, 0, none⟩, p.l.length, p.c⟩
def PqOk (W : World) (B : Nat) (p : Pq) : Prop := WRow W p.g p.l ∧ B ≤ p.g ∧ 1 ≤ p.l.length ∧ p.l.length ≤ 1000 ∧ p.l.length ≤ p.c ∧ ∀ v ∈ p.l, OkW v
/-- The headers lie in a row of the call's own, each paragraph in a block of its own. -/
def TR (W : World) (B : Nat) (v : Value) (pg : List Pq) : Prop := OL slc 1 W B 54 v (pg.map Pq.sl) ∧ ∀ p ∈ pg, PqOk W B p
def Feet (v : Value) (pg : List Pq) : List Nat := v.ownBlock.toList ++ pg.map Pq.g
theorem OL.lts {α : Type} {cf : α → List Value} {sz : Nat} {w : World} {B : Nat} {e : TypeId} {v : Value} {l : List α} (h : OL cf sz w B e v l) : ∀ k, v.ownBlock = some k → B ≤ k ∧ k < w.heap.size := World.ownsRow.lt h
theorem OL.keep {α : Type} {cf : α → List Value} {sz : Nat} {w w' : World} {B : Nat} {e : TypeId} {v : Value} {l : List α} (h : OL cf sz w B e v l) (hk : ∀ k, v.ownBlock = some k → w'.heap[k]? = w.heap[k]?) : OL cf sz w' B e v l := by
  refine ⟨h.1, ?_⟩
  rcases h.2 with h2 | ⟨g, cap, cur, h1, h2, h3, h4⟩
  · exact .inl h2
  · exact .inr ⟨g, cap, cur, h1, h2, by rw [hk g (by rw [h1]; rfl)]; exact h3, h4⟩
theorem TR.lts {W : World} {B : Nat} {v : Value} {pg : List Pq} (h : TR W B v pg) : ∀ k ∈ Feet v pg, B ≤ k ∧ k < W.heap.size := by
  intro k hk
  rcases List.mem_append.1 hk with hk | hk
  · exact OL.lts h.1 k (by simpa using hk)
  · obtain ⟨p, hp, rfl⟩ := List.mem_map.1 hk
    exact ⟨(h.2 p hp).2.1, (h.2 p hp).1.lt⟩
theorem TR.keep {W W' : World} {B : Nat} {v : Value} {pg : List Pq} (h : TR W B v pg) (hk : ∀ k ∈ Feet v pg, W'.heap[k]? = W.heap[k]?) : TR W' B v pg := by
  refine ⟨OL.keep h.1 (fun k e => hk k (List.mem_append_left _ (by simpa using e))), fun p hp => ?_⟩
  obtain ⟨a, b⟩ := h.2 p hp
  exact ⟨a.same (hk p.g (List.mem_append_right _ (List.mem_map_of_mem hp))), b⟩
theorem TR.ext {W W' : World} {B : Nat} {v : Value} {pg : List Pq} (h : TR W B v pg) (hx : Ext W W') : TR W' B v pg := h.keep (fun k hk => hx.block k (h.lts k hk).2)
theorem TR.nil (W : World) (B : Nat) : TR W B (.slice none 0 0) [] := ⟨OL.nil W B 54, fun p hp => by cases hp⟩
/-- Two rows of rows, all of whose blocks differ. -/
def TXs (W : World) (B : Nat) (v : Value) (pg : List Pq) (v' : Value) (pn : List Pq) : Prop := TR W B v pg ∧ TR W B v' pn ∧ (Feet v pg ++ Feet v' pn).Nodup
theorem TXs.symm {W : World} {B : Nat} {v v' : Value} {pg pn : List Pq} (h : TXs W B v pg v' pn) : TXs W B v' pn v pg := ⟨h.2.1, h.1, (List.perm_append_comm.nodup_iff).1 h.2.2⟩
theorem TXs.keep {W W' : World} {B : Nat} {v v' : Value} {pg pn : List Pq} (h : TXs W B v pg v' pn) (hk : ∀ k, B ≤ k → k < W.heap.size → W'.heap[k]? = W.heap[k]?) : TXs W' B v pg v' pn :=
  ⟨h.1.keep (fun k e => hk k (h.1.lts k e).1 (h.1.lts k e).2), h.2.1.keep (fun k e => hk k (h.2.1.lts k e).1 (h.2.1.lts k e).2), h.2.2⟩
theorem TXs.ext {W W' : World} {B : Nat} {v v' : Value} {pg pn : List Pq} (h : TXs W B v pg v' pn) (hx : Ext W W') : TXs W' B v pg v' pn := h.keep (fun k _ hk => hx.block k hk)
theorem TXs.nil (W : World) (B : Nat) : TXs W B (.slice none 0 0) [] (.slice none 0 0) [] := ⟨TR.nil W B, TR.nil W B, by simp [Feet, Value.ownBlock]⟩
theorem TR.at {W : World} {B : Nat} {v : Value} {pg : List Pq} (h : TR W B v pg) {i : Nat} (hi : i < pg.length) : ∃ b cap p, v = .slice (some ⟨b, 0, none⟩) pg.length cap ∧ v.ownBlock = some b ∧ pg[i]? = some p ∧ PqOk W B p ∧ W.cell? ⟨b, i, none⟩ = some (.slice (some ⟨p.g, 0, none⟩) p.l.length p.c) := by
  obtain ⟨A, c, e, _, hh⟩ := own_form h.1
  rw [List.length_map] at e
  obtain ⟨p, hp⟩ : ∃ p, pg[i]? = some p := ⟨_, List.getElem?_eq_getElem hi⟩
  rcases hh with ⟨_, hn, _⟩ | ⟨g, rfl, _, _, hc⟩
  · rw [List.length_map] at hn; omega
  · refine ⟨g, c, p, e, by rw [e]; rfl, hp, h.2 p (List.mem_of_getElem? hp), hc i _ ?_⟩
    have := gcells_at slc_len (pg.map Pq.sl) i p.sl (by rw [List.getElem?_map, hp]; rfl) 0 (by omega)
    rw [Nat.mul_one, Nat.add_zero] at this
    rw [this]; rfl
theorem WRow.own {W : World} {B : Nat} {A : Option Addr} {c : Nat} {l : List Wd} (h : OL wcf 4 W B 60 (.slice A l.length c) l) (h1 : 1 ≤ l.length) : ∃ g, A = some ⟨g, 0, none⟩ ∧ B ≤ g ∧ g < W.heap.size ∧ WRow W g l := by
  rcases h.2 with ⟨_, h2⟩ | ⟨g, cap, cur, e, hb, hg, hn, _, _, ht⟩
  · omega
  · simp only [Value.slice.injEq] at e
    refine ⟨g, e.1, hb, lt_of_block hg, cur, 60, hg, fun k v hk j u hu => ?_⟩
    have hj : j < 4 := by have := (List.getElem?_eq_some_iff.1 hu).1; simpa [wcf] using this
    have h2 := (gcells_at wcf_len l k v hk j hj).trans hu
    rw [← ht] at h2
    rw [List.getElem?_take] at h2
    split at h2
    · simpa using h2
    · cases h2
/-- append of a fresh paragraph to the first row. -/
theorem TXs.append {W0 X : World} {B : Nat} {v v' : Value} {pg pn : List Pq} (h : TXs W0 B v pg v' pn) (p : Pq) (b : Nat) (hx : Ext W0 X) (hg : W0.heap.size ≤ p.g) (hp : WRow X p.g p.l) (h1 : 1 ≤ p.l.length) (h2 : p.l.length ≤ 1000) (h3 : p.l.length ≤ p.c ∧ ∀ v ∈ p.l, OkW v) (hb : b = X.heap.size)
    (hm : pg.length ≤ 10000) (hB : B ≤ W0.heap.size) :
    ∃ A' c' w', (Builtin.append_ #[51, 51] 51 #[v, .slice (some ⟨b, 0, none⟩) 1 1]).run Tryz.prog (X.alloc (.cells #[.slice (some ⟨p.g, 0, none⟩) p.l.length p.c] 54)) = .ok (.slice A' (pg.length + 1) c') w' ∧
      TXs w' B (.slice A' (pg.length + 1) c') (pg ++ [p]) v' pn ∧ Below B X w' := by
  subst hb
  obtain ⟨Y, hY⟩ : ∃ Y, Y = X.alloc (.cells #[.slice (some ⟨p.g, 0, none⟩) p.l.length p.c] 54) := ⟨_, rfl⟩
  have hXY : Ext X Y := by rw [hY]; exact (Ext.refl X).alloc _
  have hYs : Y.heap.size = X.heap.size + 1 := by rw [hY]; simp
  have hpl := hp.lt
  have hso := SL.one (cf := slc) (sz := 1) X p.sl #[.slice (some ⟨p.g, 0, none⟩) p.l.length p.c] rfl 54
  rw [← hY] at hso ⊢
  have hY2 := h.ext (hx.trans hXY)
  obtain ⟨_, hs⟩ := hso
  obtain ⟨A', c', w', r1, r2, r3, r4, r5⟩ := run_append_src5 (P := Tryz.prog) (t := 51) (e := 54) (size := 1) (bytes := 24) (base := B) Tryz.underlying51 info54 rfl (by omega) hY2.1.1 (A := some ⟨X.heap.size, 0, none⟩) (m := 1) (c := 1) (news := gcells slc [p.sl]) (gcells_len slc_len [p.sl])
    (fun _ => ⟨X.heap.size, 0, rfl, fun j u hu => by
      obtain ⟨b, off, e, _, hc⟩ := hs (by omega)
      simp only [Option.some.injEq, Addr.mk.injEq] at e
      obtain ⟨rfl, rfl, _⟩ := e
      obtain rfl : j = 0 := by
        have := (List.getElem?_eq_some_iff.1 hu).1
        simp [gcells, slc] at this; exact this
      have := hc 0 p.sl rfl 0 u (by simpa [gcells] using hu)
      simpa using this⟩)
    (gcells_one slc_one [p.sl]) (by simp [maxLen]; omega) (by simp; omega) (by omega)
  rw [List.length_map] at r1 r2 r5
  have hsz : Y.heap.size ≤ w'.heap.size := (r3 B (Nat.le_refl _)).size
  have hkeep : ∀ k, k < Y.heap.size → v.ownBlock ≠ some k → w'.heap[k]? = Y.heap[k]? := fun k hk hne => r4 k hk (fun a e => hne (by rw [e]; rfl))
  have hnd := hY2.2.2
  have hl1 := hx.lt
  have hlt1 : ∀ k ∈ Feet v pg, B ≤ k ∧ k < W0.heap.size := h.1.lts
  have hlt2 : ∀ k ∈ Feet v' pn, B ≤ k ∧ k < W0.heap.size := h.2.1.lts
  refine ⟨A', c', w', r1, ⟨⟨?_, fun q hq => ?_⟩, hY2.2.1.keep (fun k hk => hkeep k (by have := hlt2 k hk; omega) (fun e => ?_)), ?_⟩, ?_⟩
  · unfold OL
    rw [List.map_append, List.length_append, gcells_append, List.length_map]
    exact r2
  · rcases List.mem_append.1 hq with hq | hq
    · obtain ⟨a, bb⟩ := hY2.1.2 q hq
      refine ⟨a.same (hkeep q.g a.lt (fun e => ?_)), bb⟩
      have := (List.nodup_append.1 (List.nodup_append.1 hnd).1).2.2 q.g (by rw [e]; simp) q.g (List.mem_map_of_mem hq)
      exact this rfl
    · obtain rfl : q = p := by simpa using hq
      refine ⟨(hp.ext hXY).same (hkeep q.g (by omega) (fun e => ?_)), by omega, h1, h2, h3⟩
      have := OL.lts h.1.1 q.g e
      omega
  · exact (List.nodup_append.1 hnd).2.2 k (List.mem_append_left _ (by rw [e]; simp)) k hk rfl
  · have hin : ∀ k ∈ pg.map Pq.g ++ Feet v' pn, k < W0.heap.size := fun k hk => by
      rcases List.mem_append.1 hk with hk | hk
      · exact (hlt1 k (List.mem_append_right _ hk)).2
      · exact (hlt2 k hk).2
    have hsub : (pg.map Pq.g ++ Feet v' pn).Nodup := by
      simp only [Feet] at hnd ⊢
      rw [List.append_assoc] at hnd
      exact (List.nodup_append.1 hnd).2.1
    have hperm : (pg.map Pq.g ++ [p.g] ++ Feet v' pn).Perm (p.g :: (pg.map Pq.g ++ Feet v' pn)) := by
      rw [List.append_assoc]; exact List.perm_middle
    have hnew : (pg.map Pq.g ++ [p.g] ++ Feet v' pn).Nodup := hperm.nodup_iff.2 (List.nodup_cons.2 ⟨fun e => by have := hin _ e; omega, hsub⟩)
    have e2 : Feet (.slice A' (pg.length + 1) c') (pg ++ [p]) ++ Feet v' pn = (Value.slice A' (pg.length + 1) c').ownBlock.toList ++ (pg.map Pq.g ++ [p.g] ++ Feet v' pn) := by simp [Feet]
    rw [e2]
    rcases r5 with e | e
    · rw [e]
      rcases ho : v.ownBlock with _ | k0
      · simpa using hnew
      · refine List.nodup_cons.2 ⟨fun hm2 => ?_, hnew⟩
        have hk0 := hlt1 k0 (by simp [Feet, ho])
        rcases List.mem_cons.1 (hperm.mem_iff.1 hm2) with h3 | h3
        · omega
        · simp only [Feet, ho] at hnd
          rw [List.append_assoc] at hnd
          exact (List.nodup_append.1 hnd).2.2 k0 (by simp) k0 h3 rfl
    · rw [e]
      refine List.nodup_cons.2 ⟨fun hm2 => ?_, hnew⟩
      rcases List.mem_cons.1 (hperm.mem_iff.1 hm2) with h3 | h3
      · omega
      · have := hin _ h3; omega
  · exact Below.trans (Below.mono hXY (by omega)) (r3 B (Nat.le_refl _))
/-- A store into a word of the first row's paragraph i. -/
theorem TXs.set {W : World} {B : Nat} {v v' : Value} {pg pn : List Pq} (h : TXs W B v pg v' pn) {i : Nat} {p : Pq} (hi : pg[i]? = some p) {k : Nat} {x x' : Wd} (hk : p.l[k]? = some x) {j : Nat} {u : Value} (hj : j < 4) (hv : wcf x' = (wcf x).set j u) (hz : OkW x') :
    TXs (W.setCell ⟨p.g, k * 4 + j, none⟩ u) B v (pg.set i { p with l := p.l.set k x' }) v' pn := by
  obtain ⟨h1, h2, h3⟩ := h
  have hmem := List.mem_of_getElem? hi
  have hil := (List.getElem?_eq_some_iff.1 hi).1
  have eg : (pg.set i { p with l := p.l.set k x' }).map Pq.g = pg.map Pq.g := by
    rw [List.map_set]
    apply List.ext_getElem?
    intro n
    rw [List.getElem?_set]
    split
    · next hn => subst hn; rw [if_pos (by simpa using hil), List.getElem?_map, hi]; rfl
    · rfl
  have es : (pg.set i { p with l := p.l.set k x' }).map Pq.sl = pg.map Pq.sl := by
    rw [List.map_set]
    apply List.ext_getElem?
    intro n
    rw [List.getElem?_set]
    split
    · next hn => subst hn; rw [if_pos (by simpa using hil), List.getElem?_map, hi]; simp [Pq.sl]
    · rfl
  have hn1 := List.nodup_append.1 h3
  have hn2 := List.nodup_append.1 hn1.1
  have ho : OL slc 1 (W.setCell ⟨p.g, k * 4 + j, none⟩ u) B 54 v (pg.map Pq.sl) := by
    refine OL.keep h1.1 (fun q e => heap_set_other _ _ _ _ (fun e2 => ?_))
    simp only at e2
    exact hn2.2.2 q (by rw [e]; simp) q (by rw [← e2]; exact List.mem_map_of_mem hmem) rfl
  refine ⟨⟨by rw [es]; exact ho, fun q hq => ?_⟩, h2.keep (fun q hq => heap_set_other _ _ _ _ (fun e2 => ?_)), by simpa only [Feet, eg] using h3⟩
  · obtain ⟨n, hn⟩ := List.getElem?_of_mem hq
    rw [List.getElem?_set] at hn
    split at hn
    · obtain rfl := Option.some.inj hn
      obtain ⟨a, b1, b2, b3, b4⟩ := h1.2 p hmem
      refine ⟨a.set hk hj hv, b1, by simpa using b2, by simpa using b3, by simpa using b4.1, fun v hv2 => ?_⟩
      rcases List.mem_or_eq_of_mem_set hv2 with h9 | rfl
      · exact b4.2 v h9
      · exact hz
    · next hne =>
      have hqm := List.mem_of_getElem? hn
      obtain ⟨a, b⟩ := h1.2 q hqm
      refine ⟨a.same (heap_set_other _ _ _ _ (fun e2 => ?_)), b⟩
      simp only at e2
      have hnl := (List.getElem?_eq_some_iff.1 hn).1
      have hpw := List.pairwise_iff_getElem.1 hn2.2.1
      have e3 : (pg.map Pq.g)[i]'(by simpa using hil) = (pg.map Pq.g)[n]'(by simpa using hnl) := by
        simp only [List.getElem_map]
        rw [(List.getElem?_eq_some_iff.1 hi).2, (List.getElem?_eq_some_iff.1 hn).2]; exact e2
      rcases Nat.lt_or_gt_of_ne hne with h | h
      · exact hpw i n (by simpa using hil) (by simpa using hnl) h e3
      · exact hpw n i (by simpa using hnl) (by simpa using hil) h e3.symm
  · simp only at e2
    exact hn1.2.2 p.g (List.mem_append_right _ (List.mem_map_of_mem hmem)) p.g (by rw [e2]; exact hq) rfl
end Go.Proofs.YtdbnddmncbjobaaGreatDoor

/- The contract of Text. -/
namespace Go.Proofs.YtdbnddmncbjobaaGreatDoor
open Go Go.RowKit

/-- The state of Text: t's cells, its rows. -/
def TS (w W : World) (vp : Value) (pg : List Pq) (vn : Value) (pn : List Pq) : Prop := TXs W (w.heap.size + 2) vp pg vn pn ∧ W.heap[w.heap.size + 1]? = some (.cells #[vp, vn] 53 (0, 0)) ∧ W.heap[w.heap.size]? = some (.cells #[.slice none 0 0, .slice none 0 0] 53 (0, 0)) ∧ Ext w W
theorem TS.size {w W : World} {vp vn : Value} {pg pn : List Pq} (h : TS w W vp pg vn pn) : w.heap.size + 2 ≤ W.heap.size := lt_of_block h.2.1
theorem TS.ext {w W W' : World} {vp vn : Value} {pg pn : List Pq} (h : TS w W vp pg vn pn) (hx : Ext W W') : TS w W' vp pg vn pn := by
  have hs := h.size
  exact ⟨h.1.ext hx, (hx.block _ (by omega)).trans h.2.1, (hx.block _ (by omega)).trans h.2.2.1, h.2.2.2.trans hx⟩
theorem TS.c0 {w W : World} {vp vn : Value} {pg pn : List Pq} (h : TS w W vp pg vn pn) : W.cell? ⟨w.heap.size + 1, 0, none⟩ = some vp := by rw [cell_of_row W _ _ _ 53 (0, 0) h.2.1]; rfl
theorem TS.c1 {w W : World} {vp vn : Value} {pg pn : List Pq} (h : TS w W vp pg vn pn) : W.cell? ⟨w.heap.size + 1, 1, none⟩ = some vn := by rw [cell_of_row W _ _ _ 53 (0, 0) h.2.1]; rfl
theorem TS.f0 {w W : World} {vp vn : Value} {pg pn : List Pq} (h : TS w W vp pg vn pn) (i : Nat) : W.frozen? ⟨w.heap.size + 1, i, none⟩ = false := frozen_of_row W _ i _ 53 h.2.1
theorem TS.g0 {w W : World} {vp vn : Value} {pg pn : List Pq} (h : TS w W vp pg vn pn) (i : Nat) : W.frozen? ⟨w.heap.size, i, none⟩ = false := frozen_of_row W _ i _ 53 h.2.2.1
theorem TS.store {w W : World} {vp vn v0 v1 u : Value} {pg pn : List Pq} (hr : TXs W (w.heap.size + 2) vp pg vn pn) (ht : W.heap[w.heap.size + 1]? = some (.cells #[v0, v1] 53 (0, 0))) (hr2 : W.heap[w.heap.size]? = some (.cells #[.slice none 0 0, .slice none 0 0] 53 (0, 0))) (hx : Ext w W) (i : Nat) (e : (#[v0, v1] : Array Value).setIfInBounds i u = #[vp, vn]) :
    TS w (W.setCell ⟨w.heap.size + 1, i, none⟩ u) vp pg vn pn := by
  refine ⟨hr.keep (fun k h1 _ => heap_set_other _ _ _ _ (by simp only; omega)), ?_, (heap_set_other _ _ _ _ (by simp only; omega)).trans hr2, hx.setCell (by simp only; omega) _⟩
  simp [World.setCell, Array.getElem?_modify, ht, e]
theorem TS.setP {w W : World} {vp vn : Value} {pg pn : List Pq} (h : TS w W vp pg vn pn) {i : Nat} {p : Pq} (hi : pg[i]? = some p) {k : Nat} {x : Wd} (hk : p.l[k]? = some x) (note : Int) :
    TS w (W.setCell ⟨p.g, k * 4 + 3, none⟩ (.int .i64 note)) vp (pg.set i { p with l := p.l.set k { x with nt := note } }) vn pn := by
  have hB := (h.1.1.2 p (List.mem_of_getElem? hi)).2.1
  exact ⟨h.1.set hi hk (by omega) rfl ((h.1.1.2 p (List.mem_of_getElem? hi)).2.2.2.2.2 x (List.mem_of_getElem? hk)), (heap_set_other _ _ _ _ (by simp only; omega)).trans h.2.1, (heap_set_other _ _ _ _ (by simp only; omega)).trans h.2.2.1, h.2.2.2.setCell (by simp only; omega) _⟩
theorem TXs.mono {W : World} {B B' : Nat} {v v' : Value} {pg pn : List Pq} (h : TXs W B v pg v' pn) (hb : B' ≤ B) : TXs W B' v pg v' pn :=
  ⟨⟨h.1.1.base hb, fun p hp => ⟨(h.1.2 p hp).1, Nat.le_trans hb (h.1.2 p hp).2.1, (h.1.2 p hp).2.2⟩⟩, ⟨h.2.1.1.base hb, fun p hp => ⟨(h.2.1.2 p hp).1, Nat.le_trans hb (h.2.1.2 p hp).2.1, (h.2.1.2 p hp).2.2⟩⟩, h.2.2⟩
theorem TS.d0 {w W : World} {vp vn : Value} {pg pn : List Pq} (h : TS w W vp pg vn pn) : W.cell? ⟨w.heap.size, 0, none⟩ = some (.slice none 0 0) ∧ W.cell? ⟨w.heap.size, 1, none⟩ = some (.slice none 0 0) := by
  constructor <;> (rw [cell_of_row W _ _ _ 53 (0, 0) h.2.2.1]; rfl)
theorem GpPost.at {w W : World} {m : Nat} {e : Ending} (hm : m ≤ 1000) (h : GpPost w m e W) : ∃ p : Pq, e = .returned (.slice (some ⟨p.g, 0, none⟩) p.l.length p.c) ∧ w.heap.size ≤ p.g ∧ WRow W p.g p.l ∧ 1 ≤ p.l.length ∧ p.l.length ≤ 1000 ∧ (p.l.length ≤ p.c ∧ ∀ v ∈ p.l, OkW v) ∧ (p.l.length ≤ m ∧ ∀ v ∈ p.l, OkN v) ∧ Ext w W := by
  obtain ⟨A, c, l, rfl, ho, h1, h2, h3, hx⟩ := h
  obtain ⟨g, rfl, hg, _, hr⟩ := WRow.own ho h1
  obtain ⟨A', c', e, hc, _⟩ := OL.form wcf_len ho
  simp only [Value.slice.injEq] at e
  exact ⟨⟨g, c, l⟩, rfl, hg, hr, h1, Nat.le_trans h2 hm, ⟨by rw [e.2.2]; exact hc, fun v hv => (h3 v hv).1⟩, ⟨h2, h3⟩, hx⟩
end Go.Proofs.YtdbnddmncbjobaaGreatDoor

/- How words, texts, lines, pages, sections and books lie in memory. -/
namespace Go.Proofs.YtdbnddmncbjobaaGreatDoor
open Go Go.RowKit

def kWd : Lay Wd := (kStr.pair (kStr.pair (kInt.pair kInt))).via fun w => (w.s, w.key, w.tb, w.nt)
def kWs : Lay (List Wd) := kWd.list
def kPs : Lay (List (List Wd)) := kWs.list
def kTx : Lay Tx := (kPs.pair kPs).via fun t => (t.paras, t.notes)
def kIs : Lay (List Int) := kInt.list
def kLn : Lay Ln := (kInt.pair (kInt.pair (kIs.pair kIs))).via fun l => (l.fr, l.un, l.gaps, l.nts)
def kLs : Lay (List Ln) := kLn.list
def kPg : Lay Pg := (kInt.pair (kInt.pair (kInt.pair (kInt.pair (kLs.pair kLs))))).via fun p => (p.num, p.suf, p.ent, p.ver, p.body, p.nts)
def kTs : Lay (List Tx) := kTx.list
def kSe : Lay Se := (kInt.pair (kBool.pair (kIs.pair kTs))).via fun s => (s.ent, s.fz, s.vers, s.texts)
theorem kWd_sz : kWd.sz = 4 := rfl
theorem kWs_sz : kWs.sz = 1 := rfl
theorem kTx_sz : kTx.sz = 2 := rfl
theorem kLn_sz : kLn.sz = 4 := rfl
theorem kPg_sz : kPg.sz = 6 := rfl
theorem kSe_sz : kSe.sz = 4 := rfl
theorem kWd_rep {W : World} {P : Nat → Prop} {w : Wd} {cs : List Value} : kWd.rep W P w cs ↔ cs = [.string ⟨w.s.toArray⟩, .string ⟨w.key.toArray⟩, .int .i64 w.tb, .int .i64 w.nt] := by
  constructor
  · rintro ⟨_, _, rfl, rfl, _, _, rfl, rfl, _, _, rfl, rfl, rfl⟩; rfl
  · rintro rfl; exact ⟨_, _, rfl, rfl, _, _, rfl, rfl, _, _, rfl, rfl, rfl⟩
theorem kTx_rep {W : World} {P : Nat → Prop} {t : Tx} {cs : List Value} : kTx.rep W P t cs ↔ ∃ A n c A' n' c', cs = [.slice A n c, .slice A' n' c'] ∧ n ≤ c ∧ n' ≤ c' ∧ kWs.row W P A n t.paras ∧ kWs.row W P A' n' t.notes := by
  constructor
  · rintro ⟨_, _, rfl, ⟨A, n, c, rfl, h1, h2⟩, ⟨A', n', c', rfl, h3, h4⟩⟩; exact ⟨A, n, c, A', n', c', rfl, h1, h3, h2, h4⟩
  · rintro ⟨A, n, c, A', n', c', rfl, h1, h3, h2, h4⟩; exact ⟨_, _, rfl, ⟨A, n, c, rfl, h1, h2⟩, ⟨A', n', c', rfl, h3, h4⟩⟩
theorem kLn_rep {W : World} {P : Nat → Prop} {l : Ln} {cs : List Value} : kLn.rep W P l cs ↔ ∃ A n c A' n' c', cs = [.int .i64 l.fr, .int .i64 l.un, .slice A n c, .slice A' n' c'] ∧ n ≤ c ∧ n' ≤ c' ∧ kInt.row W P A n l.gaps ∧ kInt.row W P A' n' l.nts := by
  constructor
  · rintro ⟨_, _, rfl, rfl, _, _, rfl, rfl, _, _, rfl, ⟨A, n, c, rfl, h1, h2⟩, ⟨A', n', c', rfl, h3, h4⟩⟩; exact ⟨A, n, c, A', n', c', rfl, h1, h3, h2, h4⟩
  · rintro ⟨A, n, c, A', n', c', rfl, h1, h3, h2, h4⟩; exact ⟨_, _, rfl, rfl, _, _, rfl, rfl, _, _, rfl, ⟨A, n, c, rfl, h1, h2⟩, ⟨A', n', c', rfl, h3, h4⟩⟩
theorem kPg_rep {W : World} {P : Nat → Prop} {p : Pg} {cs : List Value} : kPg.rep W P p cs ↔ ∃ A n c A' n' c', cs = [.int .i64 p.num, .int .i64 p.suf, .int .i64 p.ent, .int .i64 p.ver, .slice A n c, .slice A' n' c'] ∧ n ≤ c ∧ n' ≤ c' ∧ kLn.row W P A n p.body ∧ kLn.row W P A' n' p.nts := by
  constructor
  · rintro ⟨_, _, rfl, rfl, _, _, rfl, rfl, _, _, rfl, rfl, _, _, rfl, rfl, _, _, rfl, ⟨A, n, c, rfl, h1, h2⟩, ⟨A', n', c', rfl, h3, h4⟩⟩; exact ⟨A, n, c, A', n', c', rfl, h1, h3, h2, h4⟩
  · rintro ⟨A, n, c, A', n', c', rfl, h1, h3, h2, h4⟩; exact ⟨_, _, rfl, rfl, _, _, rfl, rfl, _, _, rfl, rfl, _, _, rfl, rfl, _, _, rfl, ⟨A, n, c, rfl, h1, h2⟩, ⟨A', n', c', rfl, h3, h4⟩⟩
theorem kSe_rep {W : World} {P : Nat → Prop} {s : Se} {cs : List Value} : kSe.rep W P s cs ↔ ∃ A n c A' n' c', cs = [.int .i64 s.ent, .bool s.fz, .slice A n c, .slice A' n' c'] ∧ n ≤ c ∧ n' ≤ c' ∧ kInt.row W P A n s.vers ∧ kTx.row W P A' n' s.texts := by
  constructor
  · rintro ⟨_, _, rfl, rfl, _, _, rfl, rfl, _, _, rfl, ⟨A, n, c, rfl, h1, h2⟩, ⟨A', n', c', rfl, h3, h4⟩⟩; exact ⟨A, n, c, A', n', c', rfl, h1, h3, h2, h4⟩
  · rintro ⟨A, n, c, A', n', c', rfl, h1, h3, h2, h4⟩; exact ⟨_, _, rfl, rfl, _, _, rfl, rfl, _, _, rfl, ⟨A, n, c, rfl, h1, h2⟩, ⟨A', n', c', rfl, h3, h4⟩⟩
theorem kWs_rep {W : World} {P : Nat → Prop} {p : List Wd} {cs : List Value} : kWs.rep W P p cs ↔ ∃ A c, cs = [.slice A p.length c] ∧ p.length ≤ c ∧ kWd.row W P A p.length p := by
  constructor
  · rintro ⟨A, n, c, rfl, h1, h2⟩; have e := Lay.row_len h2; subst e; exact ⟨A, c, rfl, h1, h2⟩
  · rintro ⟨A, c, rfl, h1, h2⟩; exact ⟨A, _, c, rfl, h1, h2⟩
end Go.Proofs.YtdbnddmncbjobaaGreatDoor

/- slices.IndexFunc, ContainsFunc at elements of one cell: walked (printed by genidx.py). -/
namespace Go.Proofs.YtdbnddmncbjobaaGreatDoor
open Go Go.RowKit

variable {β : Type}
/-- The index of the first element of which p holds, or -1. -/
def idxI (p : β → Bool) : List β → Int
  | [] => -1
  | x :: r => if p x then 0 else (match idxI p r with | .ofNat i => i + 1 | .negSucc _ => -1)
theorem idxI_neg (p : β → Bool) (xs : List β) (h : ∀ x ∈ xs, p x = false) : idxI p xs = -1 := by
  induction xs with
  | nil => rfl
  | cons x r ih =>
    rw [idxI, h x (by simp), ih fun y hy => h y (by simp [hy])]
    rfl
theorem idxI_at (p : β → Bool) (xs : List β) (i : Nat) (x : β) (h : ∀ y ∈ xs.take i, p y = false) (hi : xs[i]? = some x) (hx : p x = true) : idxI p xs = i := by
  induction xs generalizing i with
  | nil => simp at hi
  | cons a r ih =>
    cases i with
    | zero =>
      obtain rfl : a = x := by simpa using hi
      rw [idxI, if_pos hx]; rfl
    | succ i =>
      rw [idxI, h a (by simp), ih i (fun y hy => h y (by simp [hy])) (by simpa using hi)]
      simp
theorem idxI_any (p : β → Bool) (xs : List β) : decide (0 ≤ idxI p xs) = xs.any p := by
  cases h : xs.any p with
  | false =>
    rw [idxI_neg p xs (by rw [List.any_eq_false] at h; intro x hx; simpa using h x hx)]
    rfl
  | true =>
    induction xs with
    | nil => simp at h
    | cons x r ih =>
      rw [idxI]
      by_cases hx : p x = true
      · rw [if_pos hx]; rfl
      · rw [if_neg hx]
        have := ih (by simpa [hx] using h)
        revert this
        cases idxI p r with
        | ofNat i => intro _; simp; omega
        | negSucc i => intro h; simp at h
def IdRel (p : β → Bool) (W : World) (xs : List β) (s8 : Value) (w' : World) : Prop := ∃ i : Nat, i ≤ xs.length ∧ s8 = .int .i64 i ∧ (∀ y ∈ xs.take i, p y = false) ∧ Ext W w'
theorem take_none {p : β → Bool} {xs : List β} {i : Nat} {x : β} (h : ∀ y ∈ xs.take i, p y = false) (hi : xs[i]? = some x) (hx : p x = false) : ∀ y ∈ xs.take (i + 1), p y = false := by
  intro y hy
  rw [List.take_add_one, hi] at hy
  rcases List.mem_append.1 hy with hy | hy
  · exact h y hy
  · obtain rfl : y = x := by simpa using hy
    exact hx

set_option maxHeartbeats 4000000 in
set_option maxRecDepth 100000 in
theorem idx238_216 (k : Lay β) (hk : k.sz = 1) (p : β → Bool) (P : Nat → Prop) (W : World) (A : Option Addr) (n c : Nat) (xs : List β) (h : k.row W P A n xs) (hn : n ≤ 100000)
    (hp : ∀ X x u, Ext W X → k.rep X P x [u] → Calls Tryz.prog 216 #[u] X (fun e X' => e = .returned (.bool (p x)) ∧ Ext X X')) :
    Calls Tryz.prog 238 #[.slice A n c, .func (.func 216) #[] #[]] W (fun e W' => e = .returned (.int .i64 (idxI p xs)) ∧ Ext W W') := by
  have hl := Lay.row_len h
  have HR := Lib.hid h
  have HP := Lib.hid hp
  have HL := Lib.hid hl
  clear h hp hl
  go_enter Tryz.func238, Tryz.ntmps238
  go_wp2_with fail
  go_loopw [8] (fun s8 w' => IdRel p W xs s8 w') (fun s8 _ => toM n s8)
  case atStart => exact ⟨0, by omega, rfl, fun y hy => by simp at hy, Ext.refl _⟩
  case round =>
    obtain ⟨i, hi, rfl, ht, hx⟩ := hrel
    rw [← HL.out] at hi
    have HT := Lib.hid ht
    have HX := Lib.hid hx
    clear ht hx
    by_cases hlt : i < n
    case neg =>
      obtain rfl : i = n := by omega
      have hni : ¬ ((i : Int) < (i : Int)) := by omega
      have HF := Lib.hid (show idxI p xs = -1 from idxI_neg p xs (by have := HT.out; rw [HL.out, List.take_length] at this; exact this))
      go_wp2_with fail
      go_ret
      exact ⟨ret_i HF.out.symm, HX.out⟩
    have hI : (i : Int) < (n : Int) := by omega
    obtain ⟨x, hxi⟩ : ∃ x, xs[i]? = some x := ⟨_, List.getElem?_eq_getElem (by have := HL.out; omega)⟩
    obtain ⟨b, off, cs, rfl, hb, _, hrep, hc⟩ := Lay.row_at (Lay.row_ext HR.out HX.out) hxi
    obtain ⟨u, rfl⟩ : ∃ u, cs = [u] := by
      have := k.len hrep
      rw [hk] at this
      exact List.length_eq_one_iff.1 this
    have hcell := hc 0 u rfl
    rw [hk, Nat.mul_one, Nat.add_zero] at hcell
    have h1u := k.one hrep u (by simp)
    have HC := Lib.hid (HP.out _ x u HX.out hrep)
    have HXI := Lib.hid hxi
    clear hc hrep hxi
    obtain ⟨q, hq⟩ : ∃ q, q = p x := ⟨_, rfl⟩
    rw [← hq] at HC
    have HQ := Lib.hid hq
    clear hq
    cases q with
    | true =>
      have HF := Lib.hid (show idxI p xs = i from idxI_at p xs i x HT.out HXI.out HQ.out.symm)
      go_wp2_with (first | (go_at_call 216; refine (HC.out).mono ?_; rintro e w1 ⟨rfl, hx1⟩))
      go_ret
      exact ⟨ret_i HF.out.symm, HX.out.trans hx1⟩
    | false =>
      go_wp2_with (first | (go_at_call 216; refine (HC.out).mono ?_; rintro e w1 ⟨rfl, hx1⟩))
      go_roundw
      case rel => exact ⟨i + 1, by have := HL.out; omega, by simp, take_none HT.out HXI.out HQ.out.symm, HX.out.trans hx1⟩
      case measure => simp only [toM]; omega

set_option maxHeartbeats 2000000 in
set_option maxRecDepth 100000 in
theorem con215_216 (k : Lay β) (hk : k.sz = 1) (p : β → Bool) (P : Nat → Prop) (W : World) (A : Option Addr) (n c : Nat) (xs : List β) (h : k.row W P A n xs) (hn : n ≤ 100000)
    (hp : ∀ X x u, Ext W X → k.rep X P x [u] → Calls Tryz.prog 216 #[u] X (fun e X' => e = .returned (.bool (p x)) ∧ Ext X X')) :
    Calls Tryz.prog 215 #[.slice A n c, .func (.func 216) #[] #[]] W (fun e W' => e = .returned (.bool (xs.any p)) ∧ Ext W W') := by
  have HI := Lib.hid (idx238_216 k hk p P W A n c xs h hn hp)
  have HA := Lib.hid (idxI_any p xs)
  clear h hp
  obtain ⟨v, hv⟩ : ∃ v, v = idxI p xs := ⟨_, rfl⟩
  rw [← hv] at HI HA
  clear hv
  go_enter Tryz.func215, Tryz.ntmps215
  go_wp2_with (first | (go_at_call 238; refine (HI.out).mono ?_; rintro e w1 ⟨rfl, hx1⟩))
  go_ret
  exact ⟨by rw [← HA.out]; rfl, hx1⟩

set_option maxHeartbeats 4000000 in
set_option maxRecDepth 100000 in
theorem idx238_217 (k : Lay β) (hk : k.sz = 1) (p : β → Bool) (P : Nat → Prop) (W : World) (A : Option Addr) (n c : Nat) (xs : List β) (h : k.row W P A n xs) (hn : n ≤ 100000)
    (hp : ∀ X x u, Ext W X → k.rep X P x [u] → Calls Tryz.prog 217 #[u] X (fun e X' => e = .returned (.bool (p x)) ∧ Ext X X')) :
    Calls Tryz.prog 238 #[.slice A n c, .func (.func 217) #[] #[]] W (fun e W' => e = .returned (.int .i64 (idxI p xs)) ∧ Ext W W') := by
  have hl := Lay.row_len h
  have HR := Lib.hid h
  have HP := Lib.hid hp
  have HL := Lib.hid hl
  clear h hp hl
  go_enter Tryz.func238, Tryz.ntmps238
  go_wp2_with fail
  go_loopw [8] (fun s8 w' => IdRel p W xs s8 w') (fun s8 _ => toM n s8)
  case atStart => exact ⟨0, by omega, rfl, fun y hy => by simp at hy, Ext.refl _⟩
  case round =>
    obtain ⟨i, hi, rfl, ht, hx⟩ := hrel
    rw [← HL.out] at hi
    have HT := Lib.hid ht
    have HX := Lib.hid hx
    clear ht hx
    by_cases hlt : i < n
    case neg =>
      obtain rfl : i = n := by omega
      have hni : ¬ ((i : Int) < (i : Int)) := by omega
      have HF := Lib.hid (show idxI p xs = -1 from idxI_neg p xs (by have := HT.out; rw [HL.out, List.take_length] at this; exact this))
      go_wp2_with fail
      go_ret
      exact ⟨ret_i HF.out.symm, HX.out⟩
    have hI : (i : Int) < (n : Int) := by omega
    obtain ⟨x, hxi⟩ : ∃ x, xs[i]? = some x := ⟨_, List.getElem?_eq_getElem (by have := HL.out; omega)⟩
    obtain ⟨b, off, cs, rfl, hb, _, hrep, hc⟩ := Lay.row_at (Lay.row_ext HR.out HX.out) hxi
    obtain ⟨u, rfl⟩ : ∃ u, cs = [u] := by
      have := k.len hrep
      rw [hk] at this
      exact List.length_eq_one_iff.1 this
    have hcell := hc 0 u rfl
    rw [hk, Nat.mul_one, Nat.add_zero] at hcell
    have h1u := k.one hrep u (by simp)
    have HC := Lib.hid (HP.out _ x u HX.out hrep)
    have HXI := Lib.hid hxi
    clear hc hrep hxi
    obtain ⟨q, hq⟩ : ∃ q, q = p x := ⟨_, rfl⟩
    rw [← hq] at HC
    have HQ := Lib.hid hq
    clear hq
    cases q with
    | true =>
      have HF := Lib.hid (show idxI p xs = i from idxI_at p xs i x HT.out HXI.out HQ.out.symm)
      go_wp2_with (first | (go_at_call 217; refine (HC.out).mono ?_; rintro e w1 ⟨rfl, hx1⟩))
      go_ret
      exact ⟨ret_i HF.out.symm, HX.out.trans hx1⟩
    | false =>
      go_wp2_with (first | (go_at_call 217; refine (HC.out).mono ?_; rintro e w1 ⟨rfl, hx1⟩))
      go_roundw
      case rel => exact ⟨i + 1, by have := HL.out; omega, by simp, take_none HT.out HXI.out HQ.out.symm, HX.out.trans hx1⟩
      case measure => simp only [toM]; omega

set_option maxHeartbeats 2000000 in
set_option maxRecDepth 100000 in
theorem con215_217 (k : Lay β) (hk : k.sz = 1) (p : β → Bool) (P : Nat → Prop) (W : World) (A : Option Addr) (n c : Nat) (xs : List β) (h : k.row W P A n xs) (hn : n ≤ 100000)
    (hp : ∀ X x u, Ext W X → k.rep X P x [u] → Calls Tryz.prog 217 #[u] X (fun e X' => e = .returned (.bool (p x)) ∧ Ext X X')) :
    Calls Tryz.prog 215 #[.slice A n c, .func (.func 217) #[] #[]] W (fun e W' => e = .returned (.bool (xs.any p)) ∧ Ext W W') := by
  have HI := Lib.hid (idx238_217 k hk p P W A n c xs h hn hp)
  have HA := Lib.hid (idxI_any p xs)
  clear h hp
  obtain ⟨v, hv⟩ : ∃ v, v = idxI p xs := ⟨_, rfl⟩
  rw [← hv] at HI HA
  clear hv
  go_enter Tryz.func215, Tryz.ntmps215
  go_wp2_with (first | (go_at_call 238; refine (HI.out).mono ?_; rintro e w1 ⟨rfl, hx1⟩))
  go_ret
  exact ⟨by rw [← HA.out]; rfl, hx1⟩

set_option maxHeartbeats 4000000 in
set_option maxRecDepth 100000 in
theorem idx243_223 (k : Lay β) (hk : k.sz = 1) (p : β → Bool) (P : Nat → Prop) (W : World) (A : Option Addr) (n c : Nat) (xs : List β) (h : k.row W P A n xs) (hn : n ≤ 100000)
    (hp : ∀ X x u, Ext W X → k.rep X P x [u] → Calls Tryz.prog 223 #[u] X (fun e X' => e = .returned (.bool (p x)) ∧ Ext X X')) :
    Calls Tryz.prog 243 #[.slice A n c, .func (.func 223) #[] #[]] W (fun e W' => e = .returned (.int .i64 (idxI p xs)) ∧ Ext W W') := by
  have hl := Lay.row_len h
  have HR := Lib.hid h
  have HP := Lib.hid hp
  have HL := Lib.hid hl
  clear h hp hl
  go_enter Tryz.func243, Tryz.ntmps243
  go_wp2_with fail
  go_loopw [8] (fun s8 w' => IdRel p W xs s8 w') (fun s8 _ => toM n s8)
  case atStart => exact ⟨0, by omega, rfl, fun y hy => by simp at hy, Ext.refl _⟩
  case round =>
    obtain ⟨i, hi, rfl, ht, hx⟩ := hrel
    rw [← HL.out] at hi
    have HT := Lib.hid ht
    have HX := Lib.hid hx
    clear ht hx
    by_cases hlt : i < n
    case neg =>
      obtain rfl : i = n := by omega
      have hni : ¬ ((i : Int) < (i : Int)) := by omega
      have HF := Lib.hid (show idxI p xs = -1 from idxI_neg p xs (by have := HT.out; rw [HL.out, List.take_length] at this; exact this))
      go_wp2_with fail
      go_ret
      exact ⟨ret_i HF.out.symm, HX.out⟩
    have hI : (i : Int) < (n : Int) := by omega
    obtain ⟨x, hxi⟩ : ∃ x, xs[i]? = some x := ⟨_, List.getElem?_eq_getElem (by have := HL.out; omega)⟩
    obtain ⟨b, off, cs, rfl, hb, _, hrep, hc⟩ := Lay.row_at (Lay.row_ext HR.out HX.out) hxi
    obtain ⟨u, rfl⟩ : ∃ u, cs = [u] := by
      have := k.len hrep
      rw [hk] at this
      exact List.length_eq_one_iff.1 this
    have hcell := hc 0 u rfl
    rw [hk, Nat.mul_one, Nat.add_zero] at hcell
    have h1u := k.one hrep u (by simp)
    have HC := Lib.hid (HP.out _ x u HX.out hrep)
    have HXI := Lib.hid hxi
    clear hc hrep hxi
    obtain ⟨q, hq⟩ : ∃ q, q = p x := ⟨_, rfl⟩
    rw [← hq] at HC
    have HQ := Lib.hid hq
    clear hq
    cases q with
    | true =>
      have HF := Lib.hid (show idxI p xs = i from idxI_at p xs i x HT.out HXI.out HQ.out.symm)
      go_wp2_with (first | (go_at_call 223; refine (HC.out).mono ?_; rintro e w1 ⟨rfl, hx1⟩))
      go_ret
      exact ⟨ret_i HF.out.symm, HX.out.trans hx1⟩
    | false =>
      go_wp2_with (first | (go_at_call 223; refine (HC.out).mono ?_; rintro e w1 ⟨rfl, hx1⟩))
      go_roundw
      case rel => exact ⟨i + 1, by have := HL.out; omega, by simp, take_none HT.out HXI.out HQ.out.symm, HX.out.trans hx1⟩
      case measure => simp only [toM]; omega

set_option maxHeartbeats 2000000 in
set_option maxRecDepth 100000 in
theorem con222_223 (k : Lay β) (hk : k.sz = 1) (p : β → Bool) (P : Nat → Prop) (W : World) (A : Option Addr) (n c : Nat) (xs : List β) (h : k.row W P A n xs) (hn : n ≤ 100000)
    (hp : ∀ X x u, Ext W X → k.rep X P x [u] → Calls Tryz.prog 223 #[u] X (fun e X' => e = .returned (.bool (p x)) ∧ Ext X X')) :
    Calls Tryz.prog 222 #[.slice A n c, .func (.func 223) #[] #[]] W (fun e W' => e = .returned (.bool (xs.any p)) ∧ Ext W W') := by
  have HI := Lib.hid (idx243_223 k hk p P W A n c xs h hn hp)
  have HA := Lib.hid (idxI_any p xs)
  clear h hp
  obtain ⟨v, hv⟩ : ∃ v, v = idxI p xs := ⟨_, rfl⟩
  rw [← hv] at HI HA
  clear hv
  go_enter Tryz.func222, Tryz.ntmps222
  go_wp2_with (first | (go_at_call 243; refine (HI.out).mono ?_; rintro e w1 ⟨rfl, hx1⟩))
  go_ret
  exact ⟨by rw [← HA.out]; rfl, hx1⟩

set_option maxHeartbeats 4000000 in
set_option maxRecDepth 100000 in
theorem idx250_248 (k : Lay β) (hk : k.sz = 1) (p : β → Bool) (P : Nat → Prop) (W : World) (A : Option Addr) (n c : Nat) (xs : List β) (h : k.row W P A n xs) (hn : n ≤ 100000)
    (hp : ∀ X x u, Ext W X → k.rep X P x [u] → Calls Tryz.prog 248 #[u] X (fun e X' => e = .returned (.bool (p x)) ∧ Ext X X')) :
    Calls Tryz.prog 250 #[.slice A n c, .func (.func 248) #[] #[]] W (fun e W' => e = .returned (.int .i64 (idxI p xs)) ∧ Ext W W') := by
  have hl := Lay.row_len h
  have HR := Lib.hid h
  have HP := Lib.hid hp
  have HL := Lib.hid hl
  clear h hp hl
  go_enter Tryz.func250, Tryz.ntmps250
  go_wp2_with fail
  go_loopw [8] (fun s8 w' => IdRel p W xs s8 w') (fun s8 _ => toM n s8)
  case atStart => exact ⟨0, by omega, rfl, fun y hy => by simp at hy, Ext.refl _⟩
  case round =>
    obtain ⟨i, hi, rfl, ht, hx⟩ := hrel
    rw [← HL.out] at hi
    have HT := Lib.hid ht
    have HX := Lib.hid hx
    clear ht hx
    by_cases hlt : i < n
    case neg =>
      obtain rfl : i = n := by omega
      have hni : ¬ ((i : Int) < (i : Int)) := by omega
      have HF := Lib.hid (show idxI p xs = -1 from idxI_neg p xs (by have := HT.out; rw [HL.out, List.take_length] at this; exact this))
      go_wp2_with fail
      go_ret
      exact ⟨ret_i HF.out.symm, HX.out⟩
    have hI : (i : Int) < (n : Int) := by omega
    obtain ⟨x, hxi⟩ : ∃ x, xs[i]? = some x := ⟨_, List.getElem?_eq_getElem (by have := HL.out; omega)⟩
    obtain ⟨b, off, cs, rfl, hb, _, hrep, hc⟩ := Lay.row_at (Lay.row_ext HR.out HX.out) hxi
    obtain ⟨u, rfl⟩ : ∃ u, cs = [u] := by
      have := k.len hrep
      rw [hk] at this
      exact List.length_eq_one_iff.1 this
    have hcell := hc 0 u rfl
    rw [hk, Nat.mul_one, Nat.add_zero] at hcell
    have h1u := k.one hrep u (by simp)
    have HC := Lib.hid (HP.out _ x u HX.out hrep)
    have HXI := Lib.hid hxi
    clear hc hrep hxi
    obtain ⟨q, hq⟩ : ∃ q, q = p x := ⟨_, rfl⟩
    rw [← hq] at HC
    have HQ := Lib.hid hq
    clear hq
    cases q with
    | true =>
      have HF := Lib.hid (show idxI p xs = i from idxI_at p xs i x HT.out HXI.out HQ.out.symm)
      go_wp2_with (first | (go_at_call 248; refine (HC.out).mono ?_; rintro e w1 ⟨rfl, hx1⟩))
      go_ret
      exact ⟨ret_i HF.out.symm, HX.out.trans hx1⟩
    | false =>
      go_wp2_with (first | (go_at_call 248; refine (HC.out).mono ?_; rintro e w1 ⟨rfl, hx1⟩))
      go_roundw
      case rel => exact ⟨i + 1, by have := HL.out; omega, by simp, take_none HT.out HXI.out HQ.out.symm, HX.out.trans hx1⟩
      case measure => simp only [toM]; omega

set_option maxHeartbeats 2000000 in
set_option maxRecDepth 100000 in
theorem con247_248 (k : Lay β) (hk : k.sz = 1) (p : β → Bool) (P : Nat → Prop) (W : World) (A : Option Addr) (n c : Nat) (xs : List β) (h : k.row W P A n xs) (hn : n ≤ 100000)
    (hp : ∀ X x u, Ext W X → k.rep X P x [u] → Calls Tryz.prog 248 #[u] X (fun e X' => e = .returned (.bool (p x)) ∧ Ext X X')) :
    Calls Tryz.prog 247 #[.slice A n c, .func (.func 248) #[] #[]] W (fun e W' => e = .returned (.bool (xs.any p)) ∧ Ext W W') := by
  have HI := Lib.hid (idx250_248 k hk p P W A n c xs h hn hp)
  have HA := Lib.hid (idxI_any p xs)
  clear h hp
  obtain ⟨v, hv⟩ : ∃ v, v = idxI p xs := ⟨_, rfl⟩
  rw [← hv] at HI HA
  clear hv
  go_enter Tryz.func247, Tryz.ntmps247
  go_wp2_with (first | (go_at_call 250; refine (HI.out).mono ?_; rintro e w1 ⟨rfl, hx1⟩))
  go_ret
  exact ⟨by rw [← HA.out]; rfl, hx1⟩
end Go.Proofs.YtdbnddmncbjobaaGreatDoor

/- Valid and Check's closures: walked. -/
namespace Go.Proofs.YtdbnddmncbjobaaGreatDoor
open Go Go.RowKit

set_option maxHeartbeats 2000000 in
set_option maxRecDepth 100000 in
theorem gvalid_any (S : ByteArray) (w : World) (hL : EnvW w) : Calls Tryz.prog 218 #[.string S] w (fun e w' => e = .returned (.bool (validW S.data.toList)) ∧ w' = w) := by
  have HW := Lib.hid (width_any S w hL)
  obtain ⟨v, hv⟩ : ∃ v, v = wid S.data.toList := ⟨_, rfl⟩
  rw [← hv] at HW
  have HV := Lib.hid (show validW S.data.toList = decide (0 < v) by unfold validW; rw [hv])
  clear hv hL
  go_enter Tryz.func218, Tryz.ntmps218
  go_wp2_with (first | (go_at_call 219; refine (HW.out).mono ?_; rintro e w1 ⟨rfl, rfl⟩))
  go_ret
  exact ⟨by rw [HV.out]; rfl, rfl⟩
theorem many_any (A : Option Addr) (n c : Nat) (w : World) : Calls Tryz.prog 216 #[.slice A n c] w (fun e w' => e = .returned (.bool (decide (500 < n))) ∧ w' = w) := by
  have HV := Lib.hid (show decide ((500 : Int) < (n : Int)) = decide (500 < n) from decide_eq_decide.2 (by omega))
  go_enter Tryz.func216, Tryz.ntmps216
  go_wp2_with fail
  go_ret
  exact ⟨by rw [← HV.out]; rfl, rfl⟩
theorem none_any (A : Option Addr) (n c : Nat) (w : World) : Calls Tryz.prog 217 #[.slice A n c] w (fun e w' => e = .returned (.bool (decide (n = 0))) ∧ w' = w) := by
  obtain ⟨q, hq⟩ : ∃ q, q = decide (n = 0) := ⟨_, rfl⟩
  have HQ := Lib.hid hq
  by_cases h : n = 0
  · subst h
    go_enter Tryz.func217, Tryz.ntmps217
    go_wp2_with fail
    go_ret
    exact ⟨rfl, rfl⟩
  · have h' : ¬ (n : Int) = 0 := by omega
    have HN := Lib.hid (show decide (n = 0) = false from decide_eq_false h)
    clear hq HQ
    go_enter Tryz.func217, Tryz.ntmps217
    go_wp2_with fail
    go_ret
    exact ⟨by rw [HN.out]; simp [h], rfl⟩
/-- The tests of the parts' lengths. -/
theorem parts_many (P : Nat → Prop) (W : World) (A : Option Addr) (n c : Nat) (xs : List (List Wd)) (h : kWs.row W P A n xs) (hn : n ≤ 100000) :
    Calls Tryz.prog 215 #[.slice A n c, .func (.func 216) #[] #[]] W (fun e W' => e = .returned (.bool (xs.any fun p => decide (500 < p.length))) ∧ Ext W W') :=
  con215_216 kWs rfl _ P W A n c xs h hn fun X x u hx hr => by
    obtain ⟨A', c', e, _, _⟩ := kWs_rep.1 hr
    obtain rfl : u = .slice A' x.length c' := by simpa using e
    exact (many_any A' x.length c' X).mono fun e w' ⟨h1, h2⟩ => ⟨h1, by rw [h2]; exact Ext.refl _⟩
theorem parts_none (P : Nat → Prop) (W : World) (A : Option Addr) (n c : Nat) (xs : List (List Wd)) (h : kWs.row W P A n xs) (hn : n ≤ 100000) :
    Calls Tryz.prog 215 #[.slice A n c, .func (.func 217) #[] #[]] W (fun e W' => e = .returned (.bool (xs.any fun p => decide (p.length = 0))) ∧ Ext W W') :=
  con215_217 kWs rfl _ P W A n c xs h hn fun X x u hx hr => by
    obtain ⟨A', c', e, _, _⟩ := kWs_rep.1 hr
    obtain rfl : u = .slice A' x.length c' := by simpa using e
    exact (none_any A' x.length c' X).mono fun e w' ⟨h1, h2⟩ => ⟨h1, by rw [h2]; exact Ext.refl _⟩
end Go.Proofs.YtdbnddmncbjobaaGreatDoor

/- slack: walked. -/
namespace Go.Proofs.YtdbnddmncbjobaaGreatDoor
open Go Go.RowKit

/-- The element i of a row of numbers. -/
theorem int_at {W : World} {P : Nat → Prop} {A : Option Addr} {n : Nat} {xs : List Int} (h : kInt.row W P A n xs) {i : Nat} {x : Int} (hi : xs[i]? = some x) :
    ∃ b off, A = some ⟨b, off, none⟩ ∧ b < W.heap.size ∧ P b ∧ W.cell? ⟨b, off + i, none⟩ = some (.int .i64 x) := by
  obtain ⟨b, off, cs, e, hb, hp, hr, hc⟩ := Lay.row_at h hi
  have hr : cs = [.int .i64 x] := hr
  subst hr
  have := hc 0 _ rfl
  rw [show kInt.sz = 1 from rfl, Nat.mul_one, Nat.add_zero] at this
  exact ⟨b, off, e, hb, hp, this⟩
def slackF (m : Int) (ws : List Int) : Int := ws.foldl (fun s w => s - (w + 6)) (m + 6)
theorem slackF_bd {m : Int} (hm0 : 0 ≤ m) (hm : m ≤ 2000) (ws : List Int) (h : Wds ws) : slackF m ws ≤ 2006 ∧ -(486 * (ws.length : Int)) ≤ slackF m ws := by
  suffices ∀ (l : List Int) (s : Int), Wds l → l.foldl (fun s w => s - (w + 6)) s ≤ s ∧ s - 486 * (l.length : Int) ≤ l.foldl (fun s w => s - (w + 6)) s by
    have := this ws (m + 6) h
    unfold slackF; omega
  intro l
  induction l with
  | nil => intro s _; simp
  | cons a r ih =>
    intro s hl
    have h1 := hl a (by simp)
    have := ih (s - (a + 6)) hl.tail
    simp only [List.foldl_cons, List.length_cons]
    omega
def SkRel (m : Int) (ws : List Int) (W : World) (s5 s12 : Value) (w' : World) : Prop := ∃ i : Nat, i ≤ ws.length ∧ s12 = .int .i64 i ∧ s5 = .int .i64 (slackF m (ws.take i)) ∧ W = w'
set_option maxHeartbeats 4000000 in
set_option maxRecDepth 100000 in
theorem slack_any (P : Nat → Prop) (w : World) (A : Option Addr) (n c : Nat) (ws : List Int) (m : Int) (h : kInt.row w P A n ws) (hw : Wds ws) (hn : n ≤ 500) (hm0 : 0 ≤ m) (hm : m ≤ 2000) :
    Calls Tryz.prog 242 #[.slice A n c, .int .i64 m] w (fun e w' => e = .returned (.int .i64 (slackP ws m)) ∧ w' = w) := by
  have HL := Lib.hid (Lay.row_len h)
  have HR := Lib.hid h
  have HW := Lib.hid hw
  clear h hw
  go_enter Tryz.func242, Tryz.ntmps242
  go_wp2_with fail
  go_loopw [5, 12] (fun s5 s12 w' => SkRel m ws w s5 s12 w') (fun _ s12 _ => toM n s12)
  case atStart => exact ⟨0, by omega, rfl, rfl, rfl⟩
  case round =>
    obtain ⟨i, hi, rfl, rfl, rfl⟩ := hrel
    rw [← HL.out] at hi
    have hb := slackF_bd hm0 hm (ws.take i) (fun x hx => HW.out x (List.mem_of_mem_take hx))
    have hti : (ws.take i).length ≤ 500 := by rw [List.length_take]; omega
    obtain ⟨s, hs⟩ : ∃ s, s = slackF m (ws.take i) := ⟨_, rfl⟩
    rw [← hs] at hb ⊢
    have HS := Lib.hid hs
    clear hs
    by_cases hlt : i < n
    case neg =>
      obtain rfl : i = n := by omega
      have hni : ¬ ((i : Int) < (i : Int)) := by omega
      have HF := Lib.hid (show slackP ws m = s by rw [HS.out, HL.out, List.take_length]; rfl)
      go_wp2_with fail
      go_ret
      exact ⟨ret_i HF.out.symm, rfl⟩
    have hI : (i : Int) < (n : Int) := by omega
    obtain ⟨x, hxi⟩ : ∃ x, ws[i]? = some x := ⟨_, List.getElem?_eq_getElem (by have := HL.out; omega)⟩
    obtain ⟨b, off, rfl, hb1, _, hcell⟩ := int_at HR.out hxi
    have hx := HW.out x (List.mem_of_getElem? hxi)
    have HX := Lib.hid hxi
    clear hxi
    have b1 : -300000 ≤ s := by omega
    have b2 : s ≤ 2006 := hb.1
    clear hb hti
    go_wp2_with fail
    go_roundw
    case rel =>
      refine ⟨i + 1, by have := HL.out; omega, by simp, ?_, rfl⟩
      rw [List.take_add_one, HX.out, HS.out]
      simp [slackF]
    case measure => simp only [toM]; omega
end Go.Proofs.YtdbnddmncbjobaaGreatDoor

/- para.check: walked, at regular arguments. -/
namespace Go.Proofs.YtdbnddmncbjobaaGreatDoor
open Go Go.RowKit

theorem wout_any (x : Int) (w : World) : Calls Tryz.prog 248 #[.int .i64 x] w (fun e w' => e = .returned (.bool (decide (x < 1 ∨ 480 < x))) ∧ w' = w) := by
  generalize hq : decide (x < 1 ∨ 480 < x) = q
  by_cases h1 : x < 1
  · have HN := Lib.hid (hq.symm.trans (decide_eq_true (.inl h1)))
    clear hq
    go_enter Tryz.func248, Tryz.ntmps248
    go_wp2_with fail
    go_ret
    exact ⟨by rw [HN.out]; rfl, rfl⟩
  · have HN := Lib.hid (hq.symm.trans (show decide (x < 1 ∨ 480 < x) = decide (480 < x) from decide_eq_decide.2 (by omega)))
    clear hq
    go_enter Tryz.func248, Tryz.ntmps248
    go_wp2_with fail
    go_ret
    exact ⟨by rw [HN.out]; rfl, rfl⟩
/-- Widths of words. -/
def Wdr (ws : List Int) : Prop := ∀ w ∈ ws, 1 ≤ w ∧ w ≤ 480
theorem Wdr.wds {ws : List Int} (h : Wdr ws) : Wds ws := fun w hw => by have := h w hw; omega
theorem regular_any (P : Nat → Prop) (w : World) (A : Option Addr) (n c : Nat) (ws : List Int) (h : kInt.row w P A n ws) (hw : Wdr ws) (hn : n ≤ 100000) :
    Calls Tryz.prog 247 #[.slice A n c, .func (.func 248) #[] #[]] w (fun e w' => e = .returned (.bool false) ∧ Ext w w') :=
  (con247_248 kInt rfl (fun x => decide (x < 1 ∨ 480 < x)) P w A n c ws h hn fun X x u hx hr => by
    have hr : [u] = [.int .i64 x] := hr
    obtain rfl : u = .int .i64 x := by simpa using hr
    exact (wout_any x X).mono fun e w' ⟨h1, h2⟩ => ⟨h1, by rw [h2]; exact Ext.refl _⟩).mono fun e w' ⟨h1, h2⟩ => ⟨by
      have : ws.any (fun x => decide (x < 1 ∨ 480 < x)) = false := by
        rw [List.any_eq_false]
        intro x hx
        have := hw x hx
        simp only [decide_eq_true_eq]; omega
      rw [this] at h1; exact h1, h2⟩
set_option maxHeartbeats 4000000 in
set_option maxRecDepth 100000 in
theorem pcheck_any (P : Nat → Prop) (w : World) (A : Option Addr) (n c : Nat) (ws : List Int) (m : Int) (h : kInt.row w P A n ws) (hw : Wdr ws) (hn : n ≤ 500) (hm0 : 500 ≤ m) (hm : m ≤ 2000) :
    Calls Tryz.prog 240 #[.slice A n c, .int .i64 m] w (fun e w' => e = .returned (.int .i64 0) ∧ Ext w w') := by
  have HR := Lib.hid (fun X (hx : Ext w X) => regular_any P X A n c ws (Lay.row_ext h hx) hw (by omega))
  have h1 : ¬ (500 : Int) < (n : Int) := by omega
  have h2 : ¬ m < 500 := by omega
  have h3 : ¬ (2000 : Int) < m := by omega
  clear h hw
  go_enter Tryz.func240, Tryz.ntmps240
  go_wp2_with (first | (go_at_call 247; refine (HR.out _ (Ext.refl _)).mono ?_; rintro e w1 ⟨rfl, hx1⟩))
  go_ret
  exact ⟨rfl, hx1⟩
end Go.Proofs.YtdbnddmncbjobaaGreatDoor

/- copy of elements of several cells; elements that are set in a row of the call's own. -/
namespace Go.Proofs.YtdbnddmncbjobaaGreatDoor
open Go Go.RowKit

variable {β : Type}
theorem run_copy_sz {P : Program} (w : World) (dT sT ty elem : TypeId) (g o dLen dCap sz : Nat) (a : Addr) (sLen sCap : Nat) (cur : Array Value) (t : TypeId) (cs : List Value)
    (hu : P.underlying dT = some (.slice elem)) (hs : (P.info? elem).map (·.size) = some sz)
    (hg : w.heap[g]? = some (.cells cur t (0, 0))) (hn : cs.length = Nat.min sLen dLen * sz)
    (hsrc : ∀ j v, cs[j]? = some v → w.cell? (a.add j) = some v) (hfit : o + cs.length ≤ cur.size) (h1 : ∀ v ∈ cs, v.oneCell' = true) :
    (Builtin.copy_ #[dT, sT] ty #[.slice (some ⟨g, o, none⟩) dLen dCap, .slice (some a) sLen sCap]).run P w =
      .ok (goInt (Nat.min sLen dLen)) (w.setRow g (cur.toList.take o ++ cs ++ cur.toList.drop (o + cs.length)).toArray) := by
  have hl := run_loadCells_list (P := P) w a cs hsrc
  have hst := run_storeCells_at P g o t cs 0 cur w hg (by simpa using hfit) h1
  cases hq : P.info? elem with
  | none => simp [hq] at hs
  | some i =>
    have hi : i.size = sz := by simpa [hq] using hs
    simp [Builtin.copy_, run_underlying hu, Builtin.lenOf, Builtin.firstCells, sizeOf, typeInfo, hq, hi, ← hn, hl, hst]
theorem run_copy_zero {P : Program} (w : World) (dT sT ty elem : TypeId) (d : Option Addr) (a : Option Addr) (dLen dCap sLen sCap sz : Nat) (hu : P.underlying dT = some (.slice elem)) (hs : (P.info? elem).map (·.size) = some sz) (hn : Nat.min sLen dLen = 0) :
    (Builtin.copy_ #[dT, sT] ty #[.slice d dLen dCap, .slice a sLen sCap]).run P w = .ok (goInt 0) w := by
  cases hq : P.info? elem with
  | none => simp [hq] at hs
  | some i =>
    have hl : ∀ (x : Addr), (loadCells x 0).run P w = .ok #[] w := fun x => by simpa using run_loadCells_list (P := P) w x [] (by simp)
    cases d <;> cases a <;> simp [Builtin.copy_, run_underlying hu, Builtin.lenOf, Builtin.firstCells, sizeOf, typeInfo, hq, hn, storeCells, hl]
/-- copy, where its run is known. -/
theorem wpList_copy_run' {P : Program} {w : World} {ops : Array Oper} {rest : List Oper} {o : Oper} {a : Act} {Q : Exit → Act → World → Prop} {s x : Operand} {t t' : TypeId} {vs vx v' : Value} {w' : World}
    (hr : (Builtin.copy_ #[t, t'] o.type #[vs, vx]).run P w = .ok v' w') (hgd : o.guard = none)
    (ho : o.op = .call { callee := .builtin .copy, args := #[s, x], argTypes := #[t, t'] }) (hs : a.eval s = vs) (hx : a.eval x = vx)
    (h : wpList P ops Q rest (a.put o.dst v') w') : wpList P ops Q (o :: rest) a w := by
  refine wpList_plain hgd fun _ hK => ?_
  unfold Oper.wp execOp
  simp only [ho, resolve, invoke, builtin, Sem.run_bind, Sem.run_pure, Result.andThen_ok, List.map_toArray, List.map_cons, List.map_nil, hs, hx, hr]
  exact hK _ _ h
theorem mkCs {sz : Nat} (cs : List Value) (h : cs.length = sz) (h1 : ∀ u ∈ cs, u.oneCell' = true) : ∃ d : Cs sz, ccf d = cs := ⟨⟨cs, h, h1⟩, rfl⟩
theorem gcells_set {sz : Nat} (ds : List (Cs sz)) : ∀ (i : Nat) (d : Cs sz), i < ds.length → gcells ccf (ds.set i d) = (gcells ccf ds).take (i * sz) ++ ccf d ++ (gcells ccf ds).drop (i * sz + sz) := by
  induction ds with
  | nil => intro i d h; cases h
  | cons a r ih =>
    intro i d h
    have ha : (ccf a).length = sz := ccf_len a
    cases i with
    | zero =>
      rw [List.set_cons_zero]
      show ccf d ++ gcells ccf r = (ccf a ++ gcells ccf r).take (0 * sz) ++ ccf d ++ (ccf a ++ gcells ccf r).drop (0 * sz + sz)
      rw [show 0 * sz = 0 by omega, List.take_zero, List.nil_append, show 0 + sz = (ccf a).length by omega, List.drop_left]
    | succ i =>
      rw [List.set_cons_succ]
      show ccf a ++ gcells ccf (r.set i d) = (ccf a ++ gcells ccf r).take ((i + 1) * sz) ++ ccf d ++ (ccf a ++ gcells ccf r).drop ((i + 1) * sz + sz)
      rw [ih i d (Nat.lt_of_succ_lt_succ h), show (i + 1) * sz = (ccf a).length + i * sz by rw [Nat.succ_mul]; omega, List.take_append, List.take_of_length_le (l := ccf a) (i := (ccf a).length + i * sz) (by omega), show (ccf a).length + i * sz - (ccf a).length = i * sz by omega, show (ccf a).length + i * sz + sz = (ccf a).length + (i * sz + sz) by omega,
        List.drop_append, List.drop_of_length_le (l := ccf a) (i := (ccf a).length + (i * sz + sz)) (by omega), show (ccf a).length + (i * sz + sz) - (ccf a).length = i * sz + sz by omega, List.nil_append, List.append_assoc, List.append_assoc, List.append_assoc]
theorem set4_list (l : List Value) (o : Nat) (h : o + 4 ≤ l.length) (a b c d : Value) : (((l.set o a).set (o + 1) b).set (o + 2) c).set (o + 3) d = l.take o ++ [a, b, c, d] ++ l.drop (o + 4) := by
  apply List.ext_getElem?
  intro i
  simp only [List.getElem?_set, List.length_set]
  rw [List.append_assoc, List.getElem?_append]
  have hl : (l.take o).length = o := by simp; omega
  rw [hl]
  by_cases h1 : i < o
  · rw [if_pos h1, if_neg (by omega), if_neg (by omega), if_neg (by omega), if_neg (by omega), List.getElem?_take, if_pos h1]
  · rw [if_neg h1]
    by_cases e0 : i = o
    · subst e0; rw [if_neg (by omega), if_neg (by omega), if_neg (by omega), if_pos rfl, if_pos (by omega)]; simp
    by_cases e1 : i = o + 1
    · subst e1; rw [if_neg (by omega), if_neg (by omega), if_pos rfl, if_pos (by omega)]; simp
    by_cases e2 : i = o + 2
    · subst e2; rw [if_neg (by omega), if_pos rfl, if_pos (by omega)]; simp
    by_cases e3 : i = o + 3
    · subst e3; rw [if_pos rfl, if_pos (by omega)]; simp
    rw [if_neg (by omega), if_neg (by omega), if_neg (by omega), if_neg (by omega), List.getElem?_append_right (by simp; omega), List.getElem?_drop]
    congr 1
    simp; omega
theorem put4_eq (L : List Value) (s N i : Nat) (hs : s = 4) (hl : L.length = N * s) (hi : i < N) (a b c d : Value) : L.take (i * s) ++ [a, b, c, d] ++ L.drop (i * s + s) = (((L.set (i * 4) a).set (i * 4 + 1) b).set (i * 4 + 2) c).set (i * 4 + 3) d := by
  subst hs
  rw [set4_list _ _ (by omega)]
/-- An element is set. -/
theorem Lay.own_put4 {k : Lay β} (hk : k.sz = 4) {e : TypeId} {W : World} {base g n c : Nat} {P : Nat → Prop} {xs : List β} (h : k.own e W base P (.slice (some ⟨g, 0, none⟩) n c) xs) {i : Nat} (hi : i < xs.length) {u0 u1 u2 u3 : Value} {x : β}
    (hr : k.rep W (fun j => P j ∧ (Value.slice (some ⟨g, 0, none⟩) n c).ownBlock ≠ some j) x [u0, u1, u2, u3]) :
    k.own e ((((W.setCell ⟨g, i * 4, none⟩ u0).setCell ⟨g, i * 4 + 1, none⟩ u1).setCell ⟨g, i * 4 + 2, none⟩ u2).setCell ⟨g, i * 4 + 3, none⟩ u3) base P (.slice (some ⟨g, 0, none⟩) n c) (xs.set i x) := by
  obtain ⟨ds, h1, h2, h3⟩ := h
  have hn : n = ds.length := by
    rcases h1.2 with ⟨h1, _⟩ | ⟨g', cap, cur, h1, _⟩
    · cases h1
    · injection h1
  subst hn
  obtain ⟨d0, hd0⟩ : ∃ d0 : Cs k.sz, ccf d0 = [u0, u1, u2, u3] := mkCs _ (k.len hr) (k.one hr)
  rw [← hd0] at hr
  unfold OL at h1
  obtain ⟨s1, g1⟩ := World.ownsRow.stored h1 (i * 4) u0
  obtain ⟨s2, g2⟩ := World.ownsRow.stored s1 (i * 4 + 1) u1
  obtain ⟨s3, g3⟩ := World.ownsRow.stored s2 (i * 4 + 2) u2
  obtain ⟨s4, g4⟩ := World.ownsRow.stored s3 (i * 4 + 3) u3
  have hl := gcells_len (cf := ccf) ccf_len ds
  have hkeep : ∀ j, j < W.heap.size → (Value.slice (some ⟨g, 0, none⟩) ds.length c).ownBlock ≠ some j → ((((W.setCell ⟨g, i * 4, none⟩ u0).setCell ⟨g, i * 4 + 1, none⟩ u1).setCell ⟨g, i * 4 + 2, none⟩ u2).setCell ⟨g, i * 4 + 3, none⟩ u3).heap[j]? = W.heap[j]? := fun j _ hj => by
    have hj : j ≠ g := fun e => hj (by rw [e]; rfl)
    rw [heap_setCell_other _ ⟨g, i * 4 + 3, none⟩ j u3 hj, heap_setCell_other _ ⟨g, i * 4 + 2, none⟩ j u2 hj, heap_setCell_other _ ⟨g, i * 4 + 1, none⟩ j u1 hj, heap_setCell_other _ ⟨g, i * 4, none⟩ j u0 hj]
  have hw : W.heap.size ≤ ((((W.setCell ⟨g, i * 4, none⟩ u0).setCell ⟨g, i * 4 + 1, none⟩ u1).setCell ⟨g, i * 4 + 2, none⟩ u2).setCell ⟨g, i * 4 + 3, none⟩ u3).heap.size := by simp
  refine ⟨ds.set i d0, ?_, by rw [List.length_set, List.length_set, h2], fun j d y hd hy => ?_⟩
  · unfold OL
    have e2 : gcells ccf (ds.set i d0) = ((((gcells ccf ds).set (i * 4) u0).set (i * 4 + 1) u1).set (i * 4 + 2) u2).set (i * 4 + 3) u3 := by
      rw [gcells_set ds i _ (by omega), hd0]
      exact put4_eq _ _ ds.length i hk hl (by omega) _ _ _ _
    rw [e2, List.length_set]
    exact s4
  · rw [List.getElem?_set] at hd hy
    by_cases hij : i = j
    · rw [if_pos hij, if_pos (by omega)] at hd
      rw [if_pos hij, if_pos (by omega)] at hy
      injection hd with hd; injection hy with hy
      subst hd hy
      exact k.keep hr hw fun j hj hl => hkeep j hl hj.2
    · rw [if_neg hij] at hd hy
      exact k.keep (h3 j d y hd hy) hw fun j hj hl => hkeep j hl hj.2
theorem own_base {k : Lay β} {e : TypeId} {W : World} {base base' : Nat} {P : Nat → Prop} {v : Value} {xs : List β} (h : k.own e W base P v xs) (hb : base' ≤ base) : k.own e W base' P v xs := by
  obtain ⟨ds, h1, h2, h3⟩ := h
  refine ⟨ds, ⟨h1.1, ?_⟩, h2, h3⟩
  rcases h1.2 with h | ⟨g, cap, cur, h1, h2, h3⟩
  · exact .inl h
  · exact .inr ⟨g, cap, cur, h1, Nat.le_trans hb h2, h3⟩
/-- What is in a row of its own, all of it in blocks from base on. -/
theorem own_rowN {k : Lay β} {e : TypeId} {W : World} {base : Nat} {P Q : Nat → Prop} {v : Value} {xs : List β} (h : k.own e W base P v xs) (hP : ∀ j, P j → j < W.heap.size → Q j) (hb : ∀ j, base ≤ j → j < W.heap.size → Q j) : ∃ A c, v = .slice A xs.length c ∧ xs.length ≤ c ∧ k.row W Q A xs.length xs := by
  have hlt := Lay.own_lt h
  obtain ⟨A, c, e, hc, hr⟩ := Lay.own_row h
  exact ⟨A, c, e, hc, Lay.row_mono hr fun j hj hl => by
    rcases hj with hj | hj
    · exact hP j hj hl
    · exact hb j (hlt j hj).1 hl⟩
/-- A row of elements that is made new: all of it zero. -/
theorem own_zero {k : Lay β} (e : TypeId) (w : World) (P : Nat → Prop) (x : β) (cs : List Value) (hr : ∀ W Q, k.rep W Q x cs) (n : Nat) (hn : n ≤ 1000000) (zs : Array Value) (hz : zs.toList = (List.replicate n cs).flatten) (w' : World) (g : Nat) (hg : w'.heap[g]? = some (.cells zs e (0, 0))) (hb : w.heap.size ≤ g) :
    k.own e w' w.heap.size P (.slice (some ⟨g, 0, none⟩) n n) (List.replicate n x) := by
  have hl := k.len (hr w P)
  have ho := k.one (hr w P)
  have hlz := congrArg List.length hz
  rw [List.length_flatten, List.map_replicate, List.sum_replicate_nat, hl] at hlz
  obtain ⟨d0, hd0⟩ : ∃ d0 : Cs k.sz, ccf d0 = cs := mkCs _ hl ho
  have e1 : gcells ccf (List.replicate n d0) = (List.replicate n cs).flatten := by
    unfold gcells
    rw [List.flatMap_def, List.map_replicate, hd0]
  have hlr : (List.replicate n d0).length = n := List.length_replicate
  refine ⟨List.replicate n d0, ⟨by rw [gcells_len ccf_len], .inr ⟨g, n, zs, by rw [hlr], hb, hg, by rw [hlr]; exact Nat.le_refl _, by simp only [maxLen]; omega, by simpa using hlz, ?_⟩⟩, by rw [hlr, List.length_replicate], fun i d y hd hy => ?_⟩
  · rw [e1, ← hz, List.take_of_length_le]
    rw [hlr]; omega
  · rw [List.getElem?_replicate] at hd hy
    split at hd
    · next hi =>
      rw [if_pos hi] at hy
      injection hd with hd
      injection hy with hy
      subst hd hy
      show k.rep _ _ _ (ccf d0)
      rw [hd0]
      exact hr _ _
    · cases hd
/-- make of n elements. -/
theorem run_mk {P : Program} {t e : TypeId} {z : Value} {size bytes : Nat} (ht : P.underlying t = some (.slice e)) (hinfo : (P.info? e).map (fun i => (i.zero, i.size, i.bytes)) = some (some z, size, bytes)) (hby : bytes ≤ 1000) (n : Nat) (hn : n ≤ 1000000) (N : Int) (hN : N = (n : Int)) (W : World) :
    (Instr.makeSlice t (.int .i64 N) (.int .i64 N)).run P W = .ok (.slice (some ⟨W.heap.size, 0, none⟩) n n) (W.alloc (.cells (madeCells z.cells (n * size)) e)) := by
  subst hN
  obtain ⟨i, hi, hz, hs, hb⟩ := info_parts hinfo
  subst hs
  have hb' : (i.bytes : Int) * (n : Int) ≤ 281474976710656 := by
    have h : i.bytes * n ≤ 1000 * 1000000 := Nat.mul_le_mul (by omega) hn
    have h2 : ((i.bytes * n : Nat) : Int) ≤ 281474976710656 := by omega
    rwa [Int.natCast_mul] at h2
  have hr := run_make (P := P) W t e i z ht hi hz .i64 .i64 n n (by omega) (Int.le_refl _) hb' (by omega)
  simpa only [Int.toNat_natCast] using hr
theorem made_flat (z : Array Value) (_hz : 0 < z.size) (n : Nat) : (madeCells z (n * z.size)).toList = (List.replicate n z.toList).flatten := by
  apply List.ext_getElem?
  intro i
  unfold madeCells
  induction n generalizing i with
  | zero => simp
  | succ n ih =>
    rw [List.replicate_succ, List.flatten_cons, List.getElem?_append]
    by_cases hi : i < z.size
    · rw [if_pos (by simpa using hi)]
      have h1 : i < (n + 1) * z.size := by rw [Nat.succ_mul]; omega
      simp [h1, Nat.mod_eq_of_lt hi, hi]
    · rw [if_neg (by simpa using hi), Array.length_toList, ← ih (i - z.size)]
      have h3 : (i - z.size) % z.size = i % z.size := by rw [Nat.mod_eq_sub_mod (a := i) (by omega)]
      by_cases h1 : i < (n + 1) * z.size
      · have h2 : i - z.size < n * z.size := by rw [Nat.succ_mul] at h1; omega
        simp [h1, h2, h3]
      · have h2 : ¬ (i - z.size < n * z.size) := by rw [Nat.succ_mul] at h1; omega
        simp [h1, h2]
theorem info3 : (Tryz.prog.info? 3).map (fun i => (i.zero, i.size, i.bytes)) = some (some (Value.int .i64 0), 1, 8) := by kernel_rfl
/-- make of n numbers: the cells are a variable of the walk's. -/
theorem mkInts (n : Nat) (hn : n ≤ 1000000) (N : Int) (hN : N = (n : Int)) : ∃ Z : Array Value, (∀ W b, W.heap[b]? = some (.cells Z 3 (0, 0)) → Arr W b (List.replicate n 0)) ∧ ∀ W, (Instr.makeSlice 22 (.int .i64 N) (.int .i64 N)).run Tryz.prog W = .ok (.slice (some ⟨W.heap.size, 0, none⟩) n n) (W.alloc (.cells Z 3)) := by
  refine ⟨_, fun W b h => ?_, fun W => run_mk (P := Tryz.prog) Tryz.underlying22 info3 (by omega) n hn N hN W⟩
  unfold Arr
  rw [h]
  congr 1
  have := made_flat #[Value.int .i64 0] (by simp) n
  have e : madeCells (Value.int .i64 0).cells (n * 1) = ((List.replicate n (0 : Int)).map (Value.int .i64)).toArray := by
    apply Array.ext'
    refine this.trans ?_
    simp
  rw [e]
end Go.Proofs.YtdbnddmncbjobaaGreatDoor

/- The best lines: what stands in the two arrays. -/
namespace Go.Proofs.YtdbnddmncbjobaaGreatDoor

/-- The best way from the word i on. -/
def bst (m : Int) (ws : List Int) (i : Nat) : Int × Nat := (best m (ws.drop i)).headD (0, 0)
theorem bst_cons (m : Int) (ws : List Int) {i : Nat} (hi : i ≤ ws.length) : ∃ l, best m (ws.drop i) = bst m ws i :: l ∧ (i < ws.length → l = best m (ws.drop (i + 1))) := by
  unfold bst
  by_cases h : i < ws.length
  · obtain ⟨w, hw⟩ : ∃ w, ws[i]? = some w := ⟨_, List.getElem?_eq_getElem h⟩
    rw [dwl' ws hw]
    exact ⟨_, rfl, fun _ => rfl⟩
  · rw [List.drop_of_length_le (by omega)]
    exact ⟨[], rfl, fun h' => absurd h' h⟩
theorem bst_end (m : Int) (ws : List Int) : bst m ws ws.length = (0, 0) := by
  unfold bst; rw [List.drop_length]; rfl
theorem bst_pk (m : Int) (ws : List Int) {i : Nat} (hi : i < ws.length) : bst m ws i = pk (m + 6) (ws.drop i) (best m (ws.drop (i + 1))) 0 0 0 := by
  unfold bst
  obtain ⟨w, hw⟩ : ∃ w, ws[i]? = some w := ⟨_, List.getElem?_eq_getElem hi⟩
  rw [dwl' ws hw]
  rfl
theorem bst_bd {m : Int} (hm : 500 ≤ m) {ws : List Int} (h : Wds ws) {i : Nat} (hi : i < ws.length) : 1 ≤ (bst m ws i).2 ∧ i + (bst m ws i).2 ≤ ws.length := by
  obtain ⟨w, hw⟩ : ∃ w, ws[i]? = some w := ⟨_, List.getElem?_eq_getElem hi⟩
  have hd := dwl' ws hw
  obtain ⟨b, l, e, h1, h2⟩ := best_bd hm (w := w) (r := ws.drop (i + 1)) (fun x hx => h x (List.mem_of_mem_drop (i := i) (by rw [hd]; exact hx)))
  unfold bst
  rw [hd, e]
  simp only [List.headD_cons]
  rw [List.length_drop] at h2
  omega
theorem bst_cost {m : Int} (hm : 0 ≤ m) (hm2 : m ≤ 2000) {ws : List Int} (h : Wds ws) (hn : ws.length ≤ 500) (i : Nat) : 0 ≤ (bst m ws i).1 ∧ (bst m ws i).1 ≤ 3000000000 := by
  have h1 := best_cost hm (ws.drop i) (fun x hx => h x (List.mem_of_mem_drop hx)) 0
  unfold bst
  cases hb : best m (ws.drop i) with
  | nil => simp
  | cons b l =>
    rw [hb] at h1
    have := h1 b rfl
    simp only [List.headD_cons]
    refine ⟨this.1, Int.le_trans this.2 ?_⟩
    have h2 : m * m ≤ 2000 * 2000 := Int.mul_le_mul hm2 hm2 hm (by omega)
    have h3 : m * m * ((ws.drop i).length + 1 - 0 : Nat) ≤ 2000 * 2000 * (501 : Int) := Int.mul_le_mul h2 (by rw [List.length_drop]; omega) (by omega) (by omega)
    omega
/-- A step of the search. -/
theorem pk_step (m : Int) (ws : List Int) {q : Nat} (hq : q < ws.length) (w : Int) (hw : ws[q]? = some w) (kk : Nat) (s c : Int) (e : Nat) :
    pk s (ws.drop q) (best m (ws.drop (q + 1))) kk c e =
      if s - (w + 6) < 0 then (c, e) else if q + 1 = ws.length then (0, kk + 1)
      else if kk = 0 ∨ (s - (w + 6)) * (s - (w + 6)) + (bst m ws (q + 1)).1 ≤ c then pk (s - (w + 6)) (ws.drop (q + 1)) (best m (ws.drop (q + 1 + 1))) (kk + 1) ((s - (w + 6)) * (s - (w + 6)) + (bst m ws (q + 1)).1) (kk + 1)
      else pk (s - (w + 6)) (ws.drop (q + 1)) (best m (ws.drop (q + 1 + 1))) (kk + 1) c e := by
  obtain ⟨l, hl, hl2⟩ := bst_cons m ws (i := q + 1) (by omega)
  rw [dwl' ws hw, hl]
  simp only [pk]
  by_cases h1 : s - (w + 6) < 0
  · rw [if_pos h1, if_pos h1]
  rw [if_neg h1, if_neg h1]
  by_cases h2 : q + 1 = ws.length
  · rw [if_pos h2, if_pos (by rw [List.drop_of_length_le (by omega)]; rfl)]
  · rw [if_neg h2, if_neg (by
      rw [List.isEmpty_iff]
      intro hx
      have := congrArg List.length hx
      rw [List.length_drop] at this
      simp only [List.length_nil] at this
      omega)]
    rw [hl2 (by omega)]
/-- The ends behind a word. -/
theorem cum_step {m : Int} (hm : 500 ≤ m) {ws : List Int} (h : Wds ws) {i : Nat} (hi : i < ws.length) : cum i (lens (ws.drop i) m) = ((i + (bst m ws i).2 : Nat) : Int) :: cum ((i + (bst m ws i).2 : Nat) : Int) (lens (ws.drop (i + (bst m ws i).2)) m) := by
  have hd : ws.drop i ≠ [] := by
    intro hx
    have := congrArg List.length hx
    rw [List.length_drop] at this
    simp only [List.length_nil] at this
    omega
  obtain ⟨b, l, e, h1, h2, h3⟩ := lens_cons hm (ws := ws.drop i) (fun x hx => h x (List.mem_of_mem_drop hx)) hd
  have hb : b = bst m ws i := by unfold bst; rw [e]; rfl
  subst hb
  rw [h3, cum, List.drop_drop, Int.natCast_add]
theorem cum_end (m : Int) (ws : List Int) (f : Int) : cum f (lens (ws.drop ws.length) m) = [] := by
  rw [List.drop_length]; rfl
end Go.Proofs.YtdbnddmncbjobaaGreatDoor

/- para.Ends: walked. -/
namespace Go.Proofs.YtdbnddmncbjobaaGreatDoor
open Go Go.RowKit

/-- What stands in the arrays: from d on the best costs and ends. -/
structure EnA (m : Int) (ws : List Int) (d : Nat) (cl el : List Int) : Prop where
  cn : cl.length = ws.length + 1
  en : el.length = ws.length + 1
  c : ∀ k, d ≤ k → k ≤ ws.length → cl[k]? = some (bst m ws k).1
  e : ∀ k, d ≤ k → k < ws.length → el[k]? = some ((k + (bst m ws k).2 : Nat) : Int)
def EnO (w : World) (bc be : Nat) (m : Int) (ws : List Int) (s10 : Value) (w' : World) : Prop := ∃ (d : Nat) (cl el : List Int), d ≤ ws.length ∧ (d = 0 ∧ s10 = .int .i64 (-1) ∨ ∃ i : Nat, d = i + 1 ∧ s10 = .int .i64 i) ∧ Ext w w' ∧ Arr w' bc cl ∧ Arr w' be el ∧ EnA m ws d cl el
def EnI (w : World) (bc be : Nat) (m : Int) (ws : List Int) (i : Nat) (cl el : List Int) (s11 s12 : Value) (w' : World) : Prop := ∃ (q : Nat) (s c : Int) (e : Nat) (x y : Int), i ≤ q ∧ q < ws.length ∧ s11 = .int .i64 s ∧ s12 = .int .i64 ((q : Int) + 1) ∧
  Ext w w' ∧ Arr w' bc (cl.set i x) ∧ Arr w' be (el.set i y) ∧ (i < q → x = c ∧ y = ((i + e : Nat) : Int)) ∧ (q = i → s = m + 6) ∧ 0 ≤ s ∧ s ≤ m + 6 ∧
  bst m ws i = pk s (ws.drop q) (best m (ws.drop (q + 1))) (q - i) c e
theorem EnA.step {m : Int} {ws : List Int} {i : Nat} {cl el : List Int} (h : EnA m ws (i + 1) cl el) (hi : i < ws.length) {x : Int} {e : Nat} (hb : bst m ws i = (x, e)) : EnA m ws i (cl.set i x) (el.set i ((i + e : Nat) : Int)) := by
  refine ⟨by rw [List.length_set, h.cn], by rw [List.length_set, h.en], fun k h1 h2 => ?_, fun k h1 h2 => ?_⟩
  · rw [List.getElem?_set]
    by_cases hk : i = k
    · subst hk; rw [if_pos rfl, if_pos (by rw [h.cn]; omega), hb]
    · rw [if_neg hk]; exact h.c k (by omega) h2
  · rw [List.getElem?_set]
    by_cases hk : i = k
    · subst hk; rw [if_pos rfl, if_pos (by rw [h.en]; omega), hb]
    · rw [if_neg hk]; exact h.e k (by omega) h2
theorem set_same (l : List Int) (i : Nat) (h : i < l.length) : l.set i (l[i]?.getD 0) = l := by
  rw [List.getElem?_eq_getElem h]
  exact List.set_getElem_self h
def EnL (w : World) (be : Nat) (base : Nat) (m : Int) (ws el : List Int) (s13 s14 : Value) (w' : World) : Prop := ∃ (i : Nat) (done : List Int), i ≤ ws.length ∧ s14 = .int .i64 i ∧ base ≤ w'.heap.size ∧ Ext w w' ∧ Arr w' be el ∧ kInt.own 3 w' base (fun _ => True) s13 done ∧ done.length ≤ i ∧
  cum 0 (lens ws m) = done ++ cum i (lens (ws.drop i) m)
/-- Two arrays, in whatever order they were made. -/
def EnM (w : World) (n : Nat) (s8 s9 : Value) (w' : World) : Prop := ∃ bc be, bc ≠ be ∧ w.heap.size ≤ bc ∧ w.heap.size ≤ be ∧ s8 = .slice (some ⟨bc, 0, none⟩) (n + 1) (n + 1) ∧ s9 = .slice (some ⟨be, 0, none⟩) (n + 1) (n + 1) ∧ Ext w w' ∧ Arr w' bc (List.replicate (n + 1) 0) ∧ Arr w' be (List.replicate (n + 1) 0)
def toU (v : Value) : Nat := match v with | .int _ z => (z + 1).toNat | _ => 0
theorem Arr.alloc {w : World} {b : Nat} {l : List Int} (h : Arr w b l) (o : Obj) : Arr (w.alloc o) b l := h.ext ((Ext.refl w).alloc _)
set_option maxHeartbeats 8000000 in
set_option maxRecDepth 100000 in
theorem ends_any (P : Nat → Prop) (w : World) (A : Option Addr) (n c : Nat) (ws : List Int) (m : Int) (h : kInt.row w P A n ws) (hw : Wdr ws) (hn : n ≤ 500) (hm0 : 500 ≤ m) (hm : m ≤ 2000) :
    Calls Tryz.prog 220 #[.slice A n c, .int .i64 m] w (fun e w' => ∃ A' c', e = .returned (.tuple #[.slice A' (lens ws m).length c', .int .i64 0]) ∧ kInt.own 3 w' w.heap.size (fun _ => True) (.slice A' (lens ws m).length c') (cum 0 (lens ws m)) ∧ Ext w w') := by
  have HL := Lib.hid (Lay.row_len h)
  have HR := Lib.hid h
  have HW := Lib.hid hw
  have HC := Lib.hid (pcheck_any P w A n c ws m h hw hn hm0 hm)
  clear h hw
  go_enter Tryz.func220, Tryz.ntmps220
  go_wp2_with (first | (go_at_call 240; refine (HC.out).mono ?_; rintro e w1 ⟨rfl, hx1⟩))
  have HX1 := Lib.hid hx1
  clear hx1
  go_cut [8, 9] (fun s8 s9 wx => EnM w1 n s8 s9 wx)
  case first =>
    obtain ⟨Z, hz, hmk⟩ := mkInts (n + 1) (by omega) ((n : Int) + 1) (by simp)
    have HZ := Lib.hid hz
    clear hz
    have hA := HZ.out ((w1.drew.alloc (.cells Z 3)).alloc (.cells Z 3)) w1.heap.size ((Below.heap_alloc _ _ _ (by simp)).trans (heap_alloc_new w1.drew _))
    have hB := HZ.out ((w1.drew.alloc (.cells Z 3)).alloc (.cells Z 3)) (w1.heap.size + 1) (by have := heap_alloc_new (w1.drew.alloc (.cells Z 3)) (.cells Z 3); rwa [World.size_alloc] at this)
    have HA := Lib.hid hA
    have HB := Lib.hid hB
    have HXW := Lib.hid (show Ext w1 ((w1.drew.alloc (.cells Z 3)).alloc (.cells Z 3)) from ((Ext.refl w1).drew.alloc _).alloc _)
    clear hA hB
    go_region
    · go_wp2_with fail
      go_meet
      case rel => exact ⟨w1.heap.size, w1.heap.size + 1, by omega, by omega, by omega, rfl, rfl, HXW.out, HA.out, HB.out⟩
    · go_wp2_with fail
      go_meet
      case rel => exact ⟨w1.heap.size + 1, w1.heap.size, by omega, by omega, by omega, rfl, rfl, HXW.out, HB.out, HA.out⟩
  case rest =>
    obtain ⟨bc, be, hne, hbc, hbe, rfl, rfl, hxc, hac, hae⟩ := hcut
    have HAC := Lib.hid hac
    have HAE := Lib.hid hae
    have HXC := Lib.hid (HX1.out.trans hxc)
    have hbc' := Nat.le_trans HX1.out.lt hbc
    have hbe' := Nat.le_trans HX1.out.lt hbe
    clear hac hae hxc
    obtain ⟨N1, hN1⟩ : ∃ N1 : Int, (n : Int) - 1 = N1 := ⟨_, rfl⟩
    go_wp2_with fail
    have HN1 := Lib.hid hN1
    clear hN1
    go_loopw [10, 11, 12] (fun s10 s11 s12 w' => EnO w bc be m ws s10 w') (fun s10 s11 s12 _ => toU s10)
    case atStart =>
      refine ⟨ws.length, _, _, Nat.le_refl _, ?_, HXC.out, HAC.out, HAE.out, by simp [HL.out], by simp [HL.out], fun k h1 h2 => by
        obtain rfl : k = ws.length := by omega
        rw [bst_end]; simp [HL.out], fun k h1 h2 => by omega⟩
      rcases Nat.eq_zero_or_pos n with h0 | h0
      · exact .inl ⟨by have := HL.out; omega, by rw [← HN1.out, h0]; rfl⟩
      · exact .inr ⟨n - 1, by have := HL.out; omega, by rw [← HN1.out, Int.natCast_sub (by omega)]; rfl⟩
    case round =>
      obtain ⟨d, cl, el, hd, hs10, hx, ha, hb, hA⟩ := hrel
      have HX := Lib.hid hx
      have HA := Lib.hid ha
      have HB := Lib.hid hb
      have HE := Lib.hid hA
      clear hx ha hb hA HAC HAE HXC
      rcases hs10 with ⟨rfl, rfl⟩ | ⟨i, rfl, rfl⟩
      · go_wp2_with fail
        have hbelt : be < wr.heap.size := HB.out.lt
        go_loopw [13, 14] (fun s13 s14 w' => EnL w be wr.heap.size m ws el s13 s14 w') (fun _ s14 _ => toM n s14)
        case atStart => exact ⟨0, [], by omega, rfl, Nat.le_refl _, HX.out, HB.out, Lay.own_nil _ _ _ _ _, Nat.le_refl _, by simp⟩
        case round =>
          obtain ⟨i, done, hi, rfl, hbs, hx2, hb2, ho2, hdl, hcu⟩ := hrel
          have HX2 := Lib.hid hx2
          have HB2 := Lib.hid hb2
          have HO2 := Lib.hid ho2
          have HCU := Lib.hid hcu
          clear hx2 hb2 ho2 hcu
          by_cases hlt : i < n
          case neg =>
            obtain rfl : i = n := by have := HL.out; omega
            have hni : ¬ ((i : Int) < (i : Int)) := by omega
            go_wp2_with fail
            obtain ⟨A9, c9, rfl, _⟩ := Lay.own_row HO2.out
            have HD := Lib.hid (show cum 0 (lens ws m) = done by
              have := HCU.out
              rw [HL.out, cum_end, List.append_nil] at this
              exact this)
            have HDL := Lib.hid (show (lens ws m).length = done.length by rw [← HD.out, cum_len])
            refine bodyPost_ret (v := .tuple #[.slice A9 done.length c9, .int .i64 0]) (by simp [results, Tryz.results220, go_sem, *]) rfl ?_
            exact ⟨A9, c9, by rw [HDL.out], by rw [HDL.out, HD.out]; exact own_base HO2.out HX.out.lt, HX2.out⟩
          have hI : (i : Int) < (n : Int) := by omega
          have hbd := bst_bd (m := m) hm0 HW.out.wds (i := i) (by have := HL.out; omega)
          have hcs := cum_step hm0 HW.out.wds (i := i) (by have := HL.out; omega)
          rw [← HL.out] at hbd
          have hel := HE.out.e i (by omega) (by have := HL.out; omega)
          obtain ⟨x, hx⟩ : ∃ x, x = i + (bst m ws i).2 := ⟨_, rfl⟩
          rw [← hx] at hbd hcs hel
          have hce := HB2.out.cell hel
          have hlto := Lay.own_lt HO2.out
          obtain ⟨A9, c9, w9, hrun, ho9, hb9, hk9, hs9, _⟩ := own_app1 (k := kInt) (Pr := Tryz.prog) (t := 22) Tryz.underlying22 info3 rfl (by decide) (by omega) HO2.out hbs (cs := #[.int .i64 x]) (T := 3) (x := (x : Int)) rfl 1 (by omega)
          have hbn : u13.ownBlock ≠ some be := fun e => by have := (hlto be e).1; omega
          have hB9 := HB2.out.keep (hk9 be HB2.out.lt hbn)
          have hce9 := hB9.cell hel
          have HX9 := Lib.hid (show Ext w w9 from Below.trans HX2.out (hb9 w.heap.size HX.out.lt))
          have HB9 := Lib.hid hB9
          have HO9 := Lib.hid ho9
          have HCS := Lib.hid hcs
          have h1x : i < x := by omega
          have h2x : x ≤ n := hbd.2
          have HS9 := Lib.hid hs9
          clear hB9 ho9 hb9 hk9 hlto hcs hel hs9 hx hbd
          go_wp2_with (first | (at_builtin; refine wpList_append_run (s := .tmp 105) (x := .tmp 110) hrun rfl rfl rfl rfl rfl ?_))
          go_roundw
          case rel => exact ⟨x, done ++ [(x : Int)], by have := HL.out; omega, rfl, Nat.le_trans hbs HS9.out, HX9.out, HB9.out, HO9.out, by simp; omega, by rw [HCU.out, HCS.out]; simp⟩
          case measure => simp only [toM]; omega
      · have hin : i < n := by have := HL.out; omega
        go_wp2_with fail
        go_step3
        go_wp2_with fail
        go_step3
        go_wp2_with fail
        go_loopw [11, 12] (fun s11 s12 w' => EnI w bc be m ws i cl el s11 s12 w') (fun _ s12 _ => toM (n + 2) s12)
        case atStart =>
          refine ⟨i, m + 6, 0, 0, cl[i]?.getD 0, el[i]?.getD 0, Nat.le_refl _, by omega, rfl, rfl, HX.out, ?_, ?_, fun h => absurd h (Nat.lt_irrefl _), fun _ => rfl, by omega, Int.le_refl _, ?_⟩
          · rw [set_same _ _ (by rw [HE.out.cn]; omega)]; exact HA.out
          · rw [set_same _ _ (by rw [HE.out.en]; omega)]; exact HB.out
          · rw [Nat.sub_self]; exact bst_pk m ws (by omega)
        case round =>
          obtain ⟨q, s, c1, e1, x, y, hiq, hqn, rfl, rfl, hx, ha, hb, hxy, hs0, hs1, hs2, heq⟩ := hrel
          obtain ⟨v, hv⟩ : ∃ v, ws[q]? = some v := ⟨_, List.getElem?_eq_getElem hqn⟩
          have hvb := HW.out v (List.mem_of_getElem? hv)
          obtain ⟨b0, off, rfl, hb0, _, hcell⟩ := int_at (Lay.row_ext HR.out hx) hv
          have hst := pk_step m ws hqn v hv (q - i) s c1 e1
          rw [← heq] at hst
          obtain ⟨z, hz⟩ : ∃ z, s - (v + 6) = z := ⟨_, rfl⟩
          rw [hz] at hst
          have HST := Lib.hid hst
          have HXr := Lib.hid hx
          have HAr := Lib.hid ha
          have HBr := Lib.hid hb
          have HXY := Lib.hid hxy
          clear hst heq hv hx ha hb hxy
          have hq5 : (q : Int) < 500 := by have := HL.out; omega
          have hq6 : (q : Int) < (n : Int) := by have := HL.out; omega
          by_cases hz0 : z < 0
          · have hiq' : i < q := by
              rcases Nat.lt_or_ge i q with h | h
              · exact h
              · have := hs0 (by omega); omega
            have HEN := Lib.hid (HE.out.step (x := c1) (e := e1) (by omega) (by have := HST.out; rwa [if_pos hz0] at this))
            obtain ⟨rfl, rfl⟩ := HXY.out hiq'
            clear hs0
            go_wp2_with fail
            go_roundw
            case rel =>
              refine ⟨i, _, _, by omega, ?_, HXr.out, HAr.out, HBr.out, HEN.out⟩
              rcases Nat.eq_zero_or_pos i with h0 | h0
              · exact .inl ⟨h0, by rw [h0]; rfl⟩
              · exact .inr ⟨i - 1, by omega, by rw [Int.natCast_sub (by omega)]; rfl⟩
            case measure => simp only [toU]; omega
          have hzs : z ≤ 2006 := by omega
          have hz1 : 0 ≤ z := by omega
          obtain ⟨zz, hzz⟩ : ∃ zz, z * z = zz := ⟨_, rfl⟩
          have hzz1 : 0 ≤ zz ∧ zz ≤ 4024036 := by
            rw [← hzz]
            exact ⟨Int.mul_nonneg hz1 hz1, Int.le_trans (Int.mul_le_mul hzs hzs hz1 (by omega)) (by omega)⟩
          obtain ⟨hzz2, hzz3⟩ := hzz1
          have hcj := bst_cost (m := m) (by omega) hm HW.out.wds (by have := HL.out; omega) (q + 1)
          have hcc := HE.out.c (q + 1) (by omega) (by omega)
          obtain ⟨cj, hcje⟩ : ∃ cj, (bst m ws (q + 1)).1 = cj := ⟨_, rfl⟩
          rw [hcje] at hcj hcc
          obtain ⟨hcj1, hcj2⟩ := hcj
          have HST2 := Lib.hid (show bst m ws i = if q + 1 = ws.length then (0, q - i + 1) else if q - i = 0 ∨ zz + cj ≤ c1 then pk z (ws.drop (q + 1)) (best m (ws.drop (q + 1 + 1))) (q - i + 1) (zz + cj) (q - i + 1) else pk z (ws.drop (q + 1)) (best m (ws.drop (q + 1 + 1))) (q - i + 1) c1 e1 from by have := HST.out; rwa [if_neg hz0, hzz, hcje] at this)
          have hfc := HAr.out.frozen i
          have hfe := HBr.out.frozen i
          have hxc := HAr.out.cell (show (cl.set i x)[i]? = some x by rw [List.getElem?_set, if_pos rfl, if_pos (by rw [HE.out.cn]; omega)])
          have hxe := HBr.out.cell (show (el.set i y)[i]? = some y by rw [List.getElem?_set, if_pos rfl, if_pos (by rw [HE.out.en]; omega)])
          have hxj := HAr.out.cell (show (cl.set i x)[q + 1]? = some cj by rw [List.getElem?_set, if_neg (by omega)]; exact hcc)
          clear HST hcje hcc
          by_cases hqe : q + 1 = n
          · have HEN := Lib.hid (HE.out.step (x := 0) (e := q - i + 1) (by omega) (by have := HST2.out; rwa [if_pos (by rw [← HL.out]; exact hqe)] at this))
            have HS0 := Lib.hid (HAr.out.set i 0)
            have HS1 := Lib.hid (HBr.out.set i n)
            rw [List.set_set] at HS0 HS1
            have HIQ := Lib.hid (show i + (q - i + 1) = n by omega)
            rw [HIQ.out] at HEN
            obtain rfl := hqe
            clear hs0
            go_wp2_with fail
            go_roundw
            case rel =>
              (repeat apply Exists.intro)
              refine ⟨?_, rfl⟩
              refine ⟨i, _, _, by omega, ?_, HXr.out.setCell (p := ⟨bc, i, none⟩) hbc' _ |>.setCell (p := ⟨be, i, none⟩) hbe' _, HS0.out.other hne _, (HBr.out.other (a := ⟨bc, i, none⟩) (Ne.symm hne) _).set i _, ?_⟩
              · rcases Nat.eq_zero_or_pos i with h0 | h0
                · exact .inl ⟨h0, by rw [h0]; rfl⟩
                · exact .inr ⟨i - 1, by omega, by rw [Int.natCast_sub (by omega)]; rfl⟩
              · rw [List.set_set]; exact HEN.out
            case measure => simp only [toU, Array.getD]; simp
          · have hqI : ¬ ((q : Int) + 1 = (n : Int)) := by omega
            have HST3 := Lib.hid (show bst m ws i = if q - i = 0 ∨ zz + cj ≤ c1 then pk z (ws.drop (q + 1)) (best m (ws.drop (q + 1 + 1))) (q - i + 1) (zz + cj) (q - i + 1) else pk z (ws.drop (q + 1)) (best m (ws.drop (q + 1 + 1))) (q - i + 1) c1 e1 from by have := HST2.out; rwa [if_neg (by rw [← HL.out]; exact hqe)] at this)
            clear HST2
            have HUP : q - i = 0 ∨ zz + cj ≤ c1 → ∀ nq, EnI w bc be m ws i cl el (.int .i64 z) (.int .i64 ((q : Int) + 1 + 1)) (((wr.drewN nq).setCell ⟨bc, i, none⟩ (.int .i64 (zz + cj))).setCell ⟨be, i, none⟩ (.int .i64 ((q : Int) + 1))) := fun hor nq => by
              have h3 := HST3.out
              rw [if_pos hor, show q - i + 1 = q + 1 - i by omega] at h3
              have hA := HAr.out.keep (w' := wr.drewN nq) (by simp)
              have hB := HBr.out.keep (w' := wr.drewN nq) (by simp)
              refine ⟨q + 1, z, _, _, zz + cj, (q : Int) + 1, by omega, by have := HL.out; omega, rfl, by simp, (HXr.out.drewN nq).setCell (p := ⟨bc, i, none⟩) hbc' _ |>.setCell (p := ⟨be, i, none⟩) hbe' _, ?_, ?_, fun _ => ⟨rfl, by omega⟩, fun h => by omega, hz1, by omega, h3⟩
              · have := (hA.set i (zz + cj)).other (a := ⟨be, i, none⟩) hne (.int .i64 ((q : Int) + 1))
                rwa [List.set_set] at this
              · have := (hB.other (a := ⟨bc, i, none⟩) (Ne.symm hne) (.int .i64 (zz + cj))).set i ((q : Int) + 1)
                rwa [List.set_set] at this
            by_cases hqi : i = q
            · have HUP1 := Lib.hid (HUP (.inl (by omega)))
              subst hqi
              clear HUP hs0
              go_wp2_with fail
              go_quiet (fail)
              go_wp2_with fail
              go_roundw
              case rel => exact HUP1.out _
              case measure => simp only [toM]; omega
            · have hiq' : i < q := by omega
              obtain ⟨e5, e6⟩ := HXY.out hiq'
              have hqI2 : ((q : Int) + 1 == (i : Int) + 1) = false := by rw [beq_eq_false_iff_ne]; omega
              have hw1 : IntKind.i64.wrap ((i : Int) + 1) = (i : Int) + 1 := IntWalk.i64_in _ (by omega)
              have hw2 : IntKind.i64.wrap zz = zz := IntWalk.i64_in _ (by omega)
              have hw3 : IntKind.i64.wrap (zz + cj) = zz + cj := IntWalk.i64_in _ (by omega)
              by_cases hle : zz + cj ≤ x
              · have HUP1 := Lib.hid (HUP (.inr (by omega)))
                clear HUP hs0 e5 e6
                go_wp2_with fail
                go_quiet (fail)
                go_wp2_with fail
                go_roundw
                case rel => exact HUP1.out _
                case measure => simp only [toM]; omega
              · have HNO : ∀ nq, EnI w bc be m ws i cl el (.int .i64 z) (.int .i64 ((q : Int) + 1 + 1)) (wr.drewN nq) := fun nq => by
                  have h3 := HST3.out
                  rw [if_neg (by omega), show q - i + 1 = q + 1 - i by omega] at h3
                  exact ⟨q + 1, z, _, _, x, y, by omega, by have := HL.out; omega, rfl, by simp, HXr.out.drewN nq, HAr.out.keep (w' := wr.drewN nq) (by simp), HBr.out.keep (w' := wr.drewN nq) (by simp), fun _ => ⟨e5, e6⟩, fun h => by omega, hz1, by omega, h3⟩
                have HNO1 := Lib.hid HNO
                have hle' : x < zz + cj := by omega
                clear HUP hs0 e5 e6 HNO
                go_wp2_with fail
                go_quiet (fail)
                go_wp2_with fail
                go_roundw
                case rel => exact HNO1.out _
                case measure => simp only [toM]; omega
end Go.Proofs.YtdbnddmncbjobaaGreatDoor

/- Lines, one by one. -/
namespace Go.Proofs.YtdbnddmncbjobaaGreatDoor

def ntsOf (ws : List Wd) : List Int := ws.filterMap fun w => if w.nt ≠ 0 then some (w.nt - 1) else none
theorem linesGo_len (m : Int) : ∀ (ls : List Nat) (ws : List Wd) (first : Int), (linesGo m ws ls first).length = ls.length := by
  intro ls
  induction ls with
  | nil => intro ws first; rfl
  | cons l ls ih => intro ws first; simp only [linesGo, List.length_cons, ih]
theorem linesGo_at (m : Int) : ∀ (ls : List Nat) (ws : List Wd) (first : Int) (i l : Nat), ls[i]? = some l →
    (linesGo m ws ls first)[i]? = some ⟨first + ((ls.take i).sum : Nat), first + (((ls.take i).sum + l : Nat) : Int), gapsP (((ws.drop (ls.take i).sum).take l).map fun w => wid w.s) m (decide (i + 1 = ls.length)), ntsOf ((ws.drop (ls.take i).sum).take l)⟩ := by
  intro ls
  induction ls with
  | nil => intro ws first i l h; simp at h
  | cons a r ih =>
    intro ws first i l h
    cases i with
    | zero =>
      obtain rfl : a = l := by simpa using h
      have : (r.isEmpty) = decide (0 + 1 = (a :: r).length) := by
        cases r <;> simp
      simp [linesGo, ntsOf, this]
    | succ i =>
      simp only [linesGo, List.getElem?_cons_succ]
      rw [ih (ws.drop a) (first + a) i l (by simpa using h)]
      simp only [List.take_succ_cons, List.sum_cons, List.drop_drop, List.length_cons, Option.some.injEq, Ln.mk.injEq, and_true]
      refine ⟨by omega, by omega, ?_⟩
      congr 1
      exact decide_eq_decide.2 (by omega)
theorem cum_at : ∀ (ls : List Nat) (f : Int) (i l : Nat), ls[i]? = some l → (cum f ls)[i]? = some (f + (((ls.take i).sum + l : Nat) : Int)) := by
  intro ls
  induction ls with
  | nil => intro f i l h; simp at h
  | cons a r ih =>
    intro f i l h
    cases i with
    | zero =>
      obtain rfl : a = l := by simpa using h
      simp [cum]
    | succ i =>
      simp only [cum, List.getElem?_cons_succ]
      rw [ih _ i l (by simpa using h)]
      simp only [List.take_succ_cons, List.sum_cons, Option.some.injEq]
      rw [Int.natCast_add, Int.natCast_add, Int.natCast_add]; omega
theorem sum_take_le (ls : List Nat) {i l : Nat} (h : ls[i]? = some l) : (ls.take i).sum + l ≤ ls.sum := by
  have h1 : (ls.take (i + 1)).sum = (ls.take i).sum + l := by rw [List.take_add_one, h]; simp
  have h2 := List.take_append_drop (i + 1) ls
  have h3 : ls.sum = (ls.take (i + 1)).sum + (ls.drop (i + 1)).sum := by rw [← List.sum_append, h2]
  omega
theorem sum_take_succ (ls : List Nat) {i l : Nat} (h : ls[i]? = some l) : (ls.take (i + 1)).sum = (ls.take i).sum + l := by
  rw [List.take_add_one, h]; simp
/-- The gap i of a line. -/
def gapAt (s k : Int) (i : Nat) : Int := 6 + s.tdiv k + (if (i : Int) < s.tmod k then 1 else 0)
theorem gapsGo_len (s k : Int) : ∀ (n : Nat) (i : Int), (gapsGo s k n i).length = n := by
  intro n
  induction n with
  | zero => intro i; rfl
  | succ n ih => intro i; simp [gapsGo, ih]
theorem gapsGo_at (s k : Int) : ∀ (n j i : Nat), i < n → (gapsGo s k n j)[i]? = some (gapAt s k (j + i)) := by
  intro n
  induction n with
  | zero => intro j i h; omega
  | succ n ih =>
    intro j i h
    cases i with
    | zero => simp [gapsGo, gapAt]
    | succ i =>
      simp only [gapsGo, List.getElem?_cons_succ]
      have := ih (j + 1) i (by omega)
      rw [Int.natCast_add] at this
      rw [show ((1 : Nat) : Int) = 1 from rfl] at this
      rw [this, show j + 1 + i = j + (i + 1) by omega]
theorem setP_lens (ws : List Wd) (first m : Int) : (setP ws first m).length = (lens (ws.map fun w => wid w.s) m).length := linesGo_len _ _ _ _
end Go.Proofs.YtdbnddmncbjobaaGreatDoor
