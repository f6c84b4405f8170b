/- What the list of one variable gives: the table of widths, in every later world; a world that meets the list. -/
import Derived.Test.YtdbnddmncbjobaaGreatDoorLaid
import Derived.Test.YtdbnddmncbjobaaGreatDoorMa
import Derived.Lib.AppendZeros
import Derived.Deep.DeepCutAuto
import Derived.Deep.RegionLaw
import Derived.Deep.RegionHeld3
import Derived.Deep.QuietTactic
import Derived.BigQuiet
namespace Go.Proofs.YtdbnddmncbjobaaGreatDoor
open Go Go.RowKit

/-- The list that the rows of the index bear. -/
def theList1 : List (String × DataW Unit) := [("rollbook/glyph.widths", Rows.laid_rollbook_glyph_widths)]
theorem envw_of_laid1 {W : World} (h : laidMetH Tryz.prog theList1 W) : EnvW W := by
  rw [MakeChecks.laidMetH_plain _ _ _ (by kernel_rfl)] at h
  intro W' hx
  have ht : Lib.TabIs Tryz.prog W "rollbook/glyph.widths" .u8 (wtab.map fun (i : Nat) => (i : Int)) := Lib.tabIs_of_head gWid (by kernel_rfl) Tryz.underlying278 Tryz.underlying5 (by kernel_rfl) (by kernel_rfl) h
  unfold Lib.TabIs at ht
  rw [var_later gWid ht (by decide) hx]
  simp [List.map_map, Function.comp_def]
/-- The door's own heap meets the list. -/
theorem door_met1 (os : Os) (args : Array Value) : laidMetH Tryz.prog theList1 ((World.doorLaid Tryz.prog 400 os).forCall (fun _ _ => 0) ⟨#[], args, []⟩).memory :=
  laidMetH_of_parts3 (fuel := 8) (laidMet_of_run' 8 (by kernel_rfl) (by kernel_rfl)) (by kernel_rfl) (by kernel_rfl)
end Go.Proofs.YtdbnddmncbjobaaGreatDoor

/- The generator of books in plain Lean. -/
namespace Go.Proofs.YtdbnddmncbjobaaGreatDoor

def voc : List (List UInt8) := [[97], [116, 104, 101], [99, 111, 117, 114, 116], [119, 105, 108, 108], [104, 101, 97, 114], [109, 111, 116, 105, 111, 110], [111, 102], [112, 108, 97, 105, 110, 116, 105, 102, 102], [77, 46, 73, 46, 84, 46], [82, 117, 108, 101], [49, 50, 40, 98, 41], [100, 105, 115, 109, 105, 115, 115, 101, 100], [119, 105, 116, 104], [112, 114, 101, 106, 117, 100, 105, 99, 101], [97, 110, 100], [99, 111, 115, 116, 115], [87, 87, 87, 64, 87], [105, 116], [105, 115], [115, 111], [111, 114, 100, 101, 114, 101, 100, 46], [97, 98, 99, 100, 101, 102, 103, 104, 105, 106, 107, 108, 109, 110, 111, 112, 113, 114, 115, 116, 117, 118, 119, 120, 121, 122, 97, 98, 99, 100, 101, 102, 103, 104, 105, 106, 107, 108, 109, 110]]
def vkeys : List (List UInt8) := [[99, 111, 115, 116, 115], [109, 111, 116, 105, 111, 110], [82, 117, 108, 101], [115, 109, 105, 116, 104]]
def hasNote (p : List Wd) : Bool := p.any fun w => decide (w.nt ≠ 0)
/-- Where the words begin behind those that refer to notes. -/
def fromGo : List Wd → Nat → Nat → Nat
  | [], _, f => f
  | w :: r, i, f => fromGo r (i + 1) (if w.nt ≠ 0 then i + 1 else f)
def referG (p : List Wd) (n note : Nat) (later : Bool) : Option (List Wd) :=
  let f := fromGo p 0 0
  if later || decide (p.length ≤ f) then none else some (p.modify (f + n % (p.length - f)) fun w => { w with nt := note })
end Go.Proofs.YtdbnddmncbjobaaGreatDoor

/- The generated texts are valid. -/
namespace Go.Proofs.YtdbnddmncbjobaaGreatDoor

/-- A word that may stand in a text. -/
def OkW (w : Wd) : Prop := validW w.s = true ∧ (w.key = [] ∨ validW w.key = true) ∧ (w.tb = 0 ∨ w.tb = 1) ∧ w.s.length ≤ 40 ∧ w.key.length ≤ 40
theorem voc_ok : ∀ s ∈ voc, validW s = true ∧ s.length ≤ 40 := by decide
theorem vkeys_ok : ∀ s ∈ vkeys, validW s = true ∧ s.length ≤ 40 := by decide
/-- The notes to which words refer. -/
def refs (p : List Wd) : List Int := (p.filter fun w => decide (w.nt ≠ 0)).map (·.nt)
def upto (k : Nat) : List Int := (List.range k).map fun (i : Nat) => (i : Int) + 1
theorem refs_append (a b : List Wd) : refs (a ++ b) = refs a ++ refs b := by simp [refs]
theorem refs_nil_of {p : List Wd} (h : hasNote p = false) : refs p = [] := by
  have : p.filter (fun w => decide (w.nt ≠ 0)) = [] := by
    rw [List.filter_eq_nil_iff]
    intro w hw hd
    unfold hasNote at h
    rw [List.any_eq_false] at h
    exact h w hw hd
  unfold refs; rw [this]; rfl
theorem fromGo_spec (p : List Wd) : ∀ (i f : Nat), f ≤ i → f ≤ fromGo p i f ∧ fromGo p i f ≤ i + p.length ∧ refs (p.drop (fromGo p i f - i)) = [] := by
  induction p with
  | nil => intro i f hf; simp only [fromGo]; exact ⟨Nat.le_refl _, by simp; omega, by simp [refs]⟩
  | cons w r ih =>
    intro i f hf
    simp only [fromGo]
    by_cases h : w.nt ≠ 0
    · rw [if_pos h]
      obtain ⟨h1, h2, h3⟩ := ih (i + 1) (i + 1) (Nat.le_refl _)
      refine ⟨by omega, by simp; omega, ?_⟩
      rw [show fromGo r (i + 1) (i + 1) - i = (fromGo r (i + 1) (i + 1) - (i + 1)) + 1 by omega, List.drop_succ_cons]
      exact h3
    · rw [if_neg h]
      obtain ⟨h1, h2, h3⟩ := ih (i + 1) f (by omega)
      refine ⟨h1, by simp; omega, ?_⟩
      by_cases h4 : fromGo r (i + 1) f ≤ i
      · rw [show fromGo r (i + 1) f - i = 0 by omega]
        rw [show fromGo r (i + 1) f - (i + 1) = 0 by omega] at h3
        simp only [List.drop_zero] at h3 ⊢
        unfold refs at h3 ⊢
        rw [List.filter_cons_of_neg (by simpa using h)]
        exact h3
      · rw [show fromGo r (i + 1) f - i = (fromGo r (i + 1) f - (i + 1)) + 1 by omega, List.drop_succ_cons]
        exact h3
theorem referG_ok {p p' : List Wd} {n note : Nat} {later : Bool} (h : referG p n note later = some p') (hn : note ≠ 0) :
    later = false ∧ refs p' = refs p ++ [(note : Int)] ∧ p'.length = p.length ∧ ∀ w ∈ p', ∃ v ∈ p, w = v ∨ w = { v with nt := note } := by
  unfold referG at h
  simp only at h
  obtain ⟨_, h2, h3⟩ := fromGo_spec p 0 0 (Nat.le_refl _)
  generalize fromGo p 0 0 = f at h h2 h3
  split at h
  · cases h
  · next hc =>
    simp only [Bool.or_eq_true, decide_eq_true_eq, not_or, Nat.not_le, Bool.not_eq_true] at hc
    injection h with h
    obtain ⟨i, hi⟩ : ∃ i, i = f + n % (p.length - f) := ⟨_, rfl⟩
    rw [← hi] at h
    have hlt := Nat.mod_lt n (show 0 < p.length - f by omega)
    have hil : i < p.length := by omega
    have e : p = p.take i ++ p[i] :: p.drop (i + 1) := by rw [List.getElem_cons_drop, List.take_append_drop]
    have e' : p' = p.take i ++ { p[i] with nt := (note : Int) } :: p.drop (i + 1) := by
      rw [← h, List.modify_eq_take_cons_drop hil]
    have hd : refs (p.drop i) = [] := by
      have : p.drop i = (p.drop f).drop (i - f) := by rw [List.drop_drop]; congr 1; omega
      rw [this]
      simp only [Nat.sub_zero] at h3
      unfold refs at h3 ⊢
      rw [List.map_eq_nil_iff, List.filter_eq_nil_iff] at h3 ⊢
      exact fun w hw => h3 w (List.mem_of_mem_drop hw)
    have hd2 : refs (p[i] :: p.drop (i + 1)) = [] := by rw [List.getElem_cons_drop]; exact hd
    have hd3 : refs (p.drop (i + 1)) = [] := by
      unfold refs at hd2 ⊢
      rw [List.map_eq_nil_iff, List.filter_eq_nil_iff] at hd2 ⊢
      exact fun w hw => hd2 w (List.mem_cons_of_mem _ hw)
    have hr : refs p = refs (p.take i) := by
      have := congrArg refs e
      rw [refs_append, hd2, List.append_nil] at this
      exact this
    refine ⟨hc.1, ?_, ?_, fun w hw => ?_⟩
    · rw [e', refs_append, hr]
      have h5 : refs ({ p[i] with nt := (note : Int) } :: p.drop (i + 1)) = (note : Int) :: refs (p.drop (i + 1)) := by
        unfold refs
        rw [List.filter_cons_of_pos (by simp; omega)]; rfl
      rw [h5, hd3]
    · rw [← h]; simp
    · rw [e'] at hw
      rcases List.mem_append.1 hw with hw | hw
      · exact ⟨w, List.mem_of_mem_take hw, .inl rfl⟩
      · rcases List.mem_cons.1 hw with hw | hw
        · exact ⟨p[i], List.getElem_mem hil, .inr hw⟩
        · exact ⟨w, List.mem_of_mem_drop hw, .inl rfl⟩
/-- What the paragraphs of a generated text are. -/
structure OkP (ps : List (List Wd)) : Prop where
  len : ∀ p ∈ ps, 1 ≤ p.length ∧ p.length ≤ 40
  ok : ∀ p ∈ ps, ∀ w ∈ p, OkW w
theorem refs_flat_nil {ps : List (List Wd)} (h : ps.any hasNote = false) : refs ps.flatten = [] := by
  induction ps with
  | nil => rfl
  | cons p ps ih =>
    simp only [List.any_cons, Bool.or_eq_false_iff] at h
    rw [List.flatten_cons, refs_append, refs_nil_of h.1, ih h.2]; rfl
/-- A generated text, which has some notes. -/
structure OkT (t : Tx) : Prop where
  par : OkP t.paras
  np : 1 ≤ t.paras.length ∧ t.paras.length ≤ 4
  nn : t.notes.length ≤ 3
  len : ∀ p ∈ t.notes, 1 ≤ p.length ∧ p.length ≤ 12
  ok : ∀ p ∈ t.notes, ∀ w ∈ p, OkW w ∧ w.nt = 0
  rf : refs t.paras.flatten = upto t.notes.length
theorem upto_succ (k : Nat) : upto (k + 1) = upto k ++ [((k + 1 : Nat) : Int)] := by simp [upto, List.range_succ]
/-- The words are found to be right. -/
theorem chkWs_ok (nn : Int) : ∀ (p : List Wd) (k : Nat), (∀ w ∈ p, OkW w) → refs p = (List.range (refs p).length).map (fun (i : Nat) => (k : Int) + i + 1) → (k : Int) + (refs p).length ≤ nn → chkWs true nn p k = .inr ((k + (refs p).length : Nat) : Int) := by
  intro p
  induction p with
  | nil => intro k _ _ _; simp [chkWs, refs]
  | cons w r ih =>
    intro k hok hr hk
    have hw := hok w (by simp)
    have h1 : (!validW w.s || (decide (w.key ≠ []) && !validW w.key)) = false := by
      rw [hw.1]
      rcases hw.2.1 with h | h
      · simp [h]
      · simp [h]
    have h2 : ¬ (w.tb ≠ 0 ∧ w.tb ≠ 1) := by have := hw.2.2.1; omega
    simp only [chkWs]
    rw [if_neg (by rw [h1]; simp), if_neg h2]
    by_cases h3 : w.nt ≠ 0
    · rw [if_pos h3]
      have e : refs (w :: r) = w.nt :: refs r := by unfold refs; rw [List.filter_cons_of_pos (by simpa using h3)]; rfl
      rw [e] at hr hk
      simp only [List.length_cons, List.range_succ_eq_map, List.map_cons, List.map_map, List.cons.injEq] at hr
      have h4 : w.nt = k + 1 := by have := hr.1; simpa using this
      simp only [List.length_cons] at hk
      rw [if_neg (by simp; omega)]
      have := ih (k + 1) (fun x hx => hok x (by simp [hx])) (by
        refine hr.2.trans ?_
        refine List.map_congr_left fun i _ => ?_
        simp only [Function.comp, Nat.succ_eq_add_one]; omega) (by omega)
      rw [show ((k + 1 : Nat) : Int) = (k : Int) + 1 by omega] at this
      rw [this, e]
      simp only [List.length_cons]
      congr 1; omega
    · rw [if_neg h3]
      have e : refs (w :: r) = refs r := by unfold refs; rw [List.filter_cons_of_neg (by simpa using h3)]
      rw [e] at hr hk ⊢
      exact ih k (fun x hx => hok x (by simp [hx])) hr hk
theorem chkWs_note (nn : Int) (k : Int) : ∀ (p : List Wd), (∀ w ∈ p, OkW w ∧ w.nt = 0) → chkWs false nn p k = .inr k := by
  intro p
  induction p with
  | nil => intro _; rfl
  | cons w r ih =>
    intro hok
    have hw := (hok w (by simp)).1
    have h1 : (!validW w.s || (decide (w.key ≠ []) && !validW w.key)) = false := by
      rw [hw.1]
      rcases hw.2.1 with h | h
      · simp [h]
      · simp [h]
    have h2 : ¬ (w.tb ≠ 0 ∧ w.tb ≠ 1) := by have := hw.2.2.1; omega
    simp only [chkWs]
    rw [if_neg (by rw [h1]; simp), if_neg h2, if_neg (by have := (hok w (by simp)).2; omega)]
    exact ih fun x hx => hok x (by simp [hx])
theorem chkPs_notes (nn : Int) (k : Int) : ∀ (ps : List (List Wd)), (∀ p ∈ ps, ∀ w ∈ p, OkW w ∧ w.nt = 0) → chkPs nn 0 ps k = .inr k := by
  intro ps
  induction ps with
  | nil => intro _; rfl
  | cons p ps ih =>
    intro h
    simp only [chkPs]
    rw [show decide (0 < 0) = false by decide, chkWs_note nn k p (h p (by simp))]
    exact ih fun q hq => h q (by simp [hq])
theorem range_split (a b k : Nat) : (List.range (a + b)).map (fun (i : Nat) => (k : Int) + i + 1) = (List.range a).map (fun (i : Nat) => (k : Int) + i + 1) ++ (List.range b).map (fun (i : Nat) => ((k + a : Nat) : Int) + i + 1) := by
  rw [List.range_add, List.map_append, List.map_map]
  congr 1
  refine List.map_congr_left fun i _ => ?_
  simp only [Function.comp]; omega
theorem chkPs_ok (nn : Int) (ns : List (List Wd)) (hns : ∀ p ∈ ns, ∀ w ∈ p, OkW w ∧ w.nt = 0) : ∀ (ps : List (List Wd)) (k : Nat), (∀ p ∈ ps, ∀ w ∈ p, OkW w) →
    refs ps.flatten = (List.range (refs ps.flatten).length).map (fun (i : Nat) => (k : Int) + i + 1) → (k : Int) + (refs ps.flatten).length ≤ nn → chkPs nn ps.length (ps ++ ns) k = .inr ((k + (refs ps.flatten).length : Nat) : Int) := by
  intro ps
  induction ps with
  | nil => intro k _ _ _; simp only [List.nil_append, List.length_nil]; rw [chkPs_notes nn k ns hns]; simp [refs]
  | cons p ps ih =>
    intro k hok hr hk
    rw [List.flatten_cons, refs_append] at hr hk ⊢
    rw [List.length_append] at hr hk ⊢
    rw [range_split] at hr
    have hr := List.append_inj hr (by simp)
    simp only [List.cons_append, chkPs, List.length_cons]
    rw [show decide (0 < ps.length + 1) = true by simp, chkWs_ok nn p k (hok p (by simp)) hr.1 (by omega)]
    simp only [Nat.add_sub_cancel]
    rw [ih (k + (refs p).length) (fun q hq => hok q (by simp [hq])) hr.2 (by omega)]
    congr 1; omega
theorem chkT_ok {t : Tx} (h : OkT t) : chkT t = 0 := by
  unfold chkT
  have hl : ∀ p ∈ t.paras ++ t.notes, 1 ≤ p.length ∧ p.length ≤ 40 := fun p hp => by
    rcases List.mem_append.1 hp with hp | hp
    · exact h.par.len p hp
    · have := h.len p hp; omega
  have h1 : (t.paras ++ t.notes).any (fun p => decide (500 < p.length)) = false := by
    rw [List.any_eq_false]; intro p hp hd; have := hl p hp; simp at hd; omega
  have h2 : (t.paras ++ t.notes).any (fun p => decide (p.length = 0)) = false := by
    rw [List.any_eq_false]; intro p hp hd; have := hl p hp; simp only [decide_eq_true_eq] at hd; omega
  have hp := h.np
  have hn := h.nn
  rw [if_neg (by rw [h1]; simp; omega), if_neg (by rw [h2]; simp)]
  have hlen : (refs t.paras.flatten).length = t.notes.length := by rw [h.rf]; simp [upto]
  have := chkPs_ok t.notes.length t.notes h.ok t.paras 0 h.par.ok (by rw [hlen, h.rf]; simp [upto]) (by rw [hlen]; omega)
  rw [show ((0 : Nat) : Int) = 0 by rfl] at this
  rw [this, hlen]
  simp
end Go.Proofs.YtdbnddmncbjobaaGreatDoor

/- Width, Valid: walked. -/
namespace Go.Proofs.YtdbnddmncbjobaaGreatDoor
open Go Go.RowKit

def toM (n : Nat) (v : Value) : Nat := match v with | .int _ z => n - z.toNat | _ => 0
theorem list_size (s : ByteArray) : s.data.toList.length = s.size := by simp
theorem get_list (s : ByteArray) (pos : Nat) (h : pos < s.size) : s.data.toList.drop pos = (s[pos]'h) :: s.data.toList.drop (pos + 1) := by
  have h' : pos < s.data.toList.length := by simpa using h
  rw [List.drop_eq_getElem_cons h']
  rfl
def WiRel (S : ByteArray) (w : World) (s3 s11 : Value) (w' : World) : Prop :=
  ∃ (i : Nat) (n : Int), i ≤ S.size ∧ s11 = .int .i64 i ∧ s3 = .int .i64 n ∧ 0 ≤ n ∧ n ≤ 12 * i ∧ widGo S.data.toList 0 = widGo (S.data.toList.drop i) n ∧ w = w'
set_option maxHeartbeats 4000000 in
set_option maxRecDepth 100000 in
theorem width_any (S : ByteArray) (w : World) (hL : EnvW w) : Calls Tryz.prog 219 #[.string S] w (fun e w' => e = .returned (.int .i64 (wid S.data.toList)) ∧ w' = w) := by
  by_cases h1 : 40 < S.size
  · have h1' : (40 : Int) < (S.size : Int) := by omega
    have HE := Lib.hid (show wid S.data.toList = 0 by unfold wid; rw [list_size, if_pos h1])
    go_enter Tryz.func219, Tryz.ntmps219
    go_wp2
    go_ret
    exact ⟨ret_i HE.out.symm, rfl⟩
  have h1' : ¬ (40 : Int) < (S.size : Int) := by omega
  have HE := Lib.hid (show wid S.data.toList = widGo S.data.toList 0 by unfold wid; rw [list_size, if_neg h1])
  have HG := Lib.hid (fun c => gwidth_any c w hL)
  have hsz : S.size ≤ 40 := by omega
  clear hL h1
  go_enter Tryz.func219, Tryz.ntmps219
  go_wp2
  go_loopw [3, 11] (fun s3 s11 w' => WiRel S w s3 s11 w') (fun _ s11 _ => toM S.size s11)
  case atStart => exact ⟨0, 0, by omega, rfl, rfl, by omega, by omega, rfl, rfl⟩
  case round =>
    obtain ⟨i, n, hi, rfl, rfl, hn0, hn1, hr, rfl⟩ := hrel
    have HR := Lib.hid hr
    clear hr
    by_cases hlt : i < S.size
    case neg =>
      obtain rfl : i = S.size := by omega
      have hni : ¬ ((S.size : Int) < (S.size : Int)) := by omega
      have HF := Lib.hid (show wid S.data.toList = n by rw [HE.out, HR.out, List.drop_of_length_le (by rw [list_size]; omega)]; rfl)
      go_wp2
      go_ret
      exact ⟨ret_i HF.out.symm, rfl⟩
    have hI : (i : Int) < (S.size : Int) := by omega
    obtain ⟨c, hc⟩ : ∃ c, c = S[i]'hlt := ⟨_, rfl⟩
    have hgl := get_list S i hlt
    rw [← hc] at hgl
    have HD := Lib.hid hgl
    have HC := Lib.hid hc
    have hb := widB_bd c
    obtain ⟨v, hv⟩ : ∃ v, v = widB c := ⟨_, rfl⟩
    rw [← hv] at hb
    have HV := Lib.hid hv
    have HGC := Lib.hid (show Calls Tryz.prog 239 #[.int .u8 c.toNat] w (fun e w1 => e = .returned (.int .i64 v) ∧ w1 = w) by rw [hv]; exact HG.out c)
    clear hgl hv
    by_cases hz : v = 0
    · have HF := Lib.hid (show wid S.data.toList = 0 by
        rw [HE.out, HR.out, HD.out, widGo, if_pos (by rw [← HV.out]; exact hz)])
      subst hz
      go_wp2_with (first | (go_at_call 239; rw [← HC.out]; refine (HGC.out).mono ?_; rintro e w1 ⟨rfl, rfl⟩))
      go_ret
      exact ⟨ret_i HF.out.symm, rfl⟩
    · go_wp2_with (first | (go_at_call 239; rw [← HC.out]; refine (HGC.out).mono ?_; rintro e w1 ⟨rfl, rfl⟩))
      go_roundw
      case rel =>
        refine ⟨i + 1, n + v, by omega, by simp, rfl, by omega, by omega, ?_, rfl⟩
        rw [HR.out, HD.out, widGo, if_neg (by rw [← HV.out]; exact hz), ← HV.out]
      case measure => simp only [toM]; omega
end Go.Proofs.YtdbnddmncbjobaaGreatDoor

/- slices.Grow at nil, slices.Concat at two rows: walked, at each element type (printed by gencat.py). -/
namespace Go.Proofs.YtdbnddmncbjobaaGreatDoor
open Go Go.RowKit

variable {β : Type}
/-- A new row of its own with the elements xs, what they hold in blocks of P. -/
def NewRow (k : Lay β) (e : TypeId) (P : Nat → Prop) (W : World) (xs : List β) (en : Ending) (W' : World) : Prop := ∃ A c, en = .returned (.slice A xs.length c) ∧ k.own e W' W.heap.size P (.slice A xs.length c) xs ∧ Ext W W'
def Cat1 (m1 m2 : Nat) (s3 s11 : Value) : Prop := (s11 = .int .i64 0 ∧ s3 = .int .i64 0) ∨ (s11 = .int .i64 1 ∧ s3 = .int .i64 m1) ∨ (s11 = .int .i64 2 ∧ s3 = .int .i64 ((m1 : Int) + (m2 : Int)))
def Cat2 (k : Lay β) (e : TypeId) (P : Nat → Prop) (W : World) (m1 m2 : Nat) (xs ys : List β) (s6 s27 : Value) (w' : World) : Prop := Ext W w' ∧ ((s27 = .int .i64 0 ∧ k.own e w' W.heap.size P s6 [] ∧ ∃ A c, s6 = .slice A 0 c) ∨
  (s27 = .int .i64 1 ∧ k.own e w' W.heap.size P s6 xs ∧ ∃ A c, s6 = .slice A m1 c) ∨ (s27 = .int .i64 2 ∧ k.own e w' W.heap.size P s6 (xs ++ ys) ∧ ∃ A c, s6 = .slice A (m1 + m2) c))
def upM (v : Value) : Nat := match v with | .int _ z => 2 - z.toNat | _ => 0
/-- append of a row that lies in memory. -/
theorem own_app {k : Lay β} {Pr : Program} {t e : TypeId} {z : Value} {bytes : Nat} (ht : Pr.underlying t = some (.slice e)) (hinfo : (Pr.info? e).map (fun i => (i.zero, i.size, i.bytes)) = some (some z, k.sz, bytes)) (hzs : z.cells.size = k.sz) (hsz : 0 < k.sz) (hby : bytes ≤ 1000)
    {W X : World} {P : Nat → Prop} {v : Value} {xs ys : List β} (h : k.own e X W.heap.size P v xs) (hx : Ext W X) {A : Option Addr} {m : Nat} (hr : k.row W P A m ys) (c : Nat) (hm : xs.length + m ≤ 100000000) :
    ∃ A' c' w', (Builtin.append_ #[t, t] t #[v, .slice A m c]).run Pr X = .ok (.slice A' (xs.length + m) c') w' ∧ k.own e w' W.heap.size P (.slice A' (xs.length + m) c') (xs ++ ys) ∧ Ext W w' := by
  have hlt := Lay.own_lt h
  obtain ⟨ds, h1, h2, h3, h4, h5⟩ := hr
  obtain ⟨A', c', w', r1, r2, r3, _⟩ := Lay.own_append (e := e) ht hinfo hzs hsz hby h (ds' := ds) (ys := ys) (h3.ext hx) h2
    (fun i d x hd hxx => (k.mono (Q := fun j => P j ∧ v.ownBlock ≠ some j) (h5 i d x hd hxx) fun j hj hl => ⟨hj, fun e => by have := (hlt j e).1; omega⟩) |> fun h => k.ext h hx) c hm hx.lt
  exact ⟨A', c', w', r1, r2, Below.trans hx (r3 _ (Nat.le_refl _))⟩

theorem info54 : (Tryz.prog.info? 54).map (fun i => (i.zero, i.size, i.bytes)) = some (some (Value.slice none 0 0), 1, 24) := by kernel_rfl
set_option maxHeartbeats 2000000 in
set_option maxRecDepth 100000 in
theorem grow125 (k : Lay β) (hk : k.sz = 1) (P : Nat → Prop) (n : Nat) (w : World) (hn : n ≤ 100000) : Calls Tryz.prog 125 #[.slice none 0 0, .int .i64 n] w (NewRow k 54 P w []) := by
  by_cases h0 : n = 0
  · subst h0
    go_enter Tryz.func125, Tryz.ntmps125
    go_wp2
    go_ret
    exact ⟨none, 0, rfl, Lay.own_nil _ _ _ _ _, Ext.refl _⟩
  · obtain ⟨i, hi, hz, hs, hb⟩ := info_parts info54
    have hrun := fun W => Lib.run_append_nil_zeros (P := Tryz.prog) W 51 3 51 54 i _ .i64 .i64 Tryz.underlying51 Tryz.underlying3 hi hz n (by omega) (by omega) (by omega) (by rw [hb]; omega)
    have HRUN := Lib.hid hrun
    have hne : ¬ (n : Int) < 0 := by omega
    have hpo : (0 : Int) < (n : Int) := by omega
    clear hrun hi hs hb
    have hz' : (Value.slice none 0 0).cells.size = 1 := rfl
    go_enter Tryz.func125, Tryz.ntmps125
    go_wp2_with (first | (at_builtin; refine Lib.wpList_append_run _ rfl (.tmp 20) (.tmp 21) 51 3 rfl _ _ rfl rfl _ _ (HRUN.out _) ?_))
    go_ret
    refine ⟨_, _, rfl, ⟨[], ⟨by simp [gcells], .inr ⟨w.heap.size, _, _, rfl, Nat.le_refl _, heap_alloc_new w _, Nat.zero_le _, grownCap_le_maxLen _ _ _ _ (by unfold maxLen; omega), ?_, by simp [gcells]⟩⟩, rfl, fun i d x hd => by simp at hd⟩, ((Ext.refl w).alloc _).drew⟩
    have hg := grownCap_ge w n 0 54
    rw [Array.size_append, size_zeroCells, size_zeroCells, hk]
    simp
    omega
set_option maxHeartbeats 4000000 in
set_option maxRecDepth 100000 in
theorem cat72 (k : Lay β) (hk : k.sz = 1) (P : Nat → Prop) (W : World) (g : Nat) (A1 A2 : Option Addr) (n1 n2 c1 c2 : Nat) (xs ys : List β) (h1 : k.row W P A1 n1 xs) (h2 : k.row W P A2 n2 ys) (hl1 : n1 ≤ 10000) (hl2 : n2 ≤ 10000)
    (hg : g < W.heap.size) (hg0 : W.cell? ⟨g, 0, none⟩ = some (.slice A1 n1 c1)) (hg1 : W.cell? ⟨g, 1, none⟩ = some (.slice A2 n2 c2)) :
    Calls Tryz.prog 72 #[.slice (some ⟨g, 0, none⟩) 2 2] W (NewRow k 54 P W (xs ++ ys)) := by
  have e1 := Lay.row_len h1
  have e2 := Lay.row_len h2
  have H1 := Lib.hid h1
  have H2 := Lib.hid h2
  have HGW := Lib.hid (fun W' => (show Calls Tryz.prog 125 #[.slice none 0 0, .int .i64 ((n1 : Int) + (n2 : Int))] W' (NewRow k 54 P W' []) from by
    have := grow125 k hk P (n1 + n2) W' (by omega)
    rwa [Int.natCast_add] at this))
  have HAP := Lib.hid (fun (X : World) (v : Value) (zs ys : List β) (h : k.own 54 X W.heap.size P v zs) (hx : Ext W X) (A : Option Addr) (m : Nat) (hr : k.row W P A m ys) (c : Nat) (hm : zs.length + m ≤ 100000000) =>
    own_app (Pr := Tryz.prog) (t := 51) (z := Value.slice none 0 0) Tryz.underlying51 (by rw [hk]; exact info54) (by rw [hk]; rfl) (by omega) (by omega) h hx hr c hm)
  clear h1 h2
  have HM1 := Lib.hid e1
  have HM2 := Lib.hid e2
  clear e1 e2
  go_enter Tryz.func72, Tryz.ntmps72
  go_wp2_with fail
  go_loop [3, 11] (fun s3 s11 => Cat1 n1 n2 s3 s11) (fun _ s11 => upM s11)
  case atStart => exact .inl ⟨rfl, rfl⟩
  case round =>
    rcases hrel with ⟨rfl, rfl⟩ | ⟨rfl, rfl⟩ | ⟨rfl, rfl⟩
    · go_wp2_with fail
      exact ⟨.inr (.inl ⟨rfl, rfl⟩), by simp [upM]⟩
    · go_wp2_with fail
      exact ⟨.inr (.inr ⟨rfl, rfl⟩), by simp [upM]⟩
    · go_wp2_with (first | (go_at_call 125; refine (HGW.out _).mono ?_; rintro e w1 ⟨A, c, rfl, ho, hx⟩))
      have HX := Lib.hid hx
      have HO := Lib.hid (show k.own 54 w1 W.heap.size P (.slice A 0 c) [] from ho)
      clear ho hx
      go_loopw [6, 27] (fun s6 s27 w' => Cat2 k 54 P W n1 n2 xs ys s6 s27 w') (fun _ s27 _ => upM s27)
      case atStart => exact ⟨HX.out, .inl ⟨rfl, HO.out, _, _, rfl⟩⟩
      case round =>
        obtain ⟨hxr, hrel⟩ := hrel
        have HXR := Lib.hid hxr
        obtain ⟨q, _⟩ := hxr.cells
        have hq0 := (q g 0 hg).trans hg0
        have hq1 := (q g 1 hg).trans hg1
        clear q hxr
        rcases hrel with ⟨rfl, ho, A', c', rfl⟩ | ⟨rfl, ho, A', c', rfl⟩ | ⟨rfl, ho, A', c', rfl⟩
        · obtain ⟨A3, c3, w3, hrun, ho3, hb3⟩ := HAP.out _ _ _ _ ho HXR.out _ _ H1.out c1 (by simp; omega)
          have HO3 := Lib.hid ho3
          have HB3 := Lib.hid hb3
          clear ho ho3 hb3
          go_wp2_with (first | (at_builtin; refine wpList_append_run (s := .tmp 31) (x := .tmp 32) hrun rfl rfl rfl rfl rfl ?_))
          exact ⟨⟨HB3.out, .inr (.inl ⟨rfl, by simpa using HO3.out, A3, c3, by simp⟩)⟩, by simp [upM]⟩
        · obtain ⟨A3, c3, w3, hrun, ho3, hb3⟩ := HAP.out _ _ _ _ ho HXR.out _ _ H2.out c2 (by have := HM1.out; omega)
          have HO3 := Lib.hid ho3
          have HB3 := Lib.hid hb3
          rw [← HM1.out] at hrun
          clear ho ho3 hb3
          go_wp2_with (first | (at_builtin; refine wpList_append_run (s := .tmp 31) (x := .tmp 32) hrun rfl rfl rfl rfl rfl ?_))
          exact ⟨⟨HB3.out, .inr (.inr ⟨rfl, by have := HO3.out; rw [← HM1.out] at this; exact this, A3, c3, rfl⟩)⟩, by simp [upM]⟩
        · have HO := Lib.hid ho
          clear ho
          go_wp2_with fail
          go_ret
          refine ⟨A', c', ?_, ?_, HXR.out⟩
          · rw [List.length_append, ← HM1.out, ← HM2.out]; rfl
          · rw [List.length_append, ← HM1.out, ← HM2.out]; exact HO.out

theorem info86 : (Tryz.prog.info? 86).map (fun i => (i.zero, i.size, i.bytes)) = some (some (Value.agg #[.int .i64 0, .int .i64 0, .slice none 0 0, .slice none 0 0]), 4, 64) := by kernel_rfl
set_option maxHeartbeats 2000000 in
set_option maxRecDepth 100000 in
theorem grow110 (k : Lay β) (hk : k.sz = 4) (P : Nat → Prop) (n : Nat) (w : World) (hn : n ≤ 100000) : Calls Tryz.prog 110 #[.slice none 0 0, .int .i64 n] w (NewRow k 86 P w []) := by
  by_cases h0 : n = 0
  · subst h0
    go_enter Tryz.func110, Tryz.ntmps110
    go_wp2
    go_ret
    exact ⟨none, 0, rfl, Lay.own_nil _ _ _ _ _, Ext.refl _⟩
  · obtain ⟨i, hi, hz, hs, hb⟩ := info_parts info86
    have hrun := fun W => Lib.run_append_nil_zeros (P := Tryz.prog) W 82 3 82 86 i _ .i64 .i64 Tryz.underlying82 Tryz.underlying3 hi hz n (by omega) (by omega) (by omega) (by rw [hb]; omega)
    have HRUN := Lib.hid hrun
    have hne : ¬ (n : Int) < 0 := by omega
    have hpo : (0 : Int) < (n : Int) := by omega
    clear hrun hi hs hb
    have hz' : (Value.agg #[.int .i64 0, .int .i64 0, .slice none 0 0, .slice none 0 0]).cells.size = 4 := rfl
    go_enter Tryz.func110, Tryz.ntmps110
    go_wp2_with (first | (at_builtin; refine Lib.wpList_append_run _ rfl (.tmp 20) (.tmp 21) 82 3 rfl _ _ rfl rfl _ _ (HRUN.out _) ?_))
    go_ret
    refine ⟨_, _, rfl, ⟨[], ⟨by simp [gcells], .inr ⟨w.heap.size, _, _, rfl, Nat.le_refl _, heap_alloc_new w _, Nat.zero_le _, grownCap_le_maxLen _ _ _ _ (by unfold maxLen; omega), ?_, by simp [gcells]⟩⟩, rfl, fun i d x hd => by simp at hd⟩, ((Ext.refl w).alloc _).drew⟩
    have hg := grownCap_ge w n 0 86
    rw [Array.size_append, size_zeroCells, size_zeroCells, hk]
    simp
    omega
set_option maxHeartbeats 4000000 in
set_option maxRecDepth 100000 in
theorem cat56 (k : Lay β) (hk : k.sz = 4) (P : Nat → Prop) (W : World) (g : Nat) (A1 A2 : Option Addr) (n1 n2 c1 c2 : Nat) (xs ys : List β) (h1 : k.row W P A1 n1 xs) (h2 : k.row W P A2 n2 ys) (hl1 : n1 ≤ 10000) (hl2 : n2 ≤ 10000)
    (hg : g < W.heap.size) (hg0 : W.cell? ⟨g, 0, none⟩ = some (.slice A1 n1 c1)) (hg1 : W.cell? ⟨g, 1, none⟩ = some (.slice A2 n2 c2)) :
    Calls Tryz.prog 56 #[.slice (some ⟨g, 0, none⟩) 2 2] W (NewRow k 86 P W (xs ++ ys)) := by
  have e1 := Lay.row_len h1
  have e2 := Lay.row_len h2
  have H1 := Lib.hid h1
  have H2 := Lib.hid h2
  have HGW := Lib.hid (fun W' => (show Calls Tryz.prog 110 #[.slice none 0 0, .int .i64 ((n1 : Int) + (n2 : Int))] W' (NewRow k 86 P W' []) from by
    have := grow110 k hk P (n1 + n2) W' (by omega)
    rwa [Int.natCast_add] at this))
  have HAP := Lib.hid (fun (X : World) (v : Value) (zs ys : List β) (h : k.own 86 X W.heap.size P v zs) (hx : Ext W X) (A : Option Addr) (m : Nat) (hr : k.row W P A m ys) (c : Nat) (hm : zs.length + m ≤ 100000000) =>
    own_app (Pr := Tryz.prog) (t := 82) (z := Value.agg #[.int .i64 0, .int .i64 0, .slice none 0 0, .slice none 0 0]) Tryz.underlying82 (by rw [hk]; exact info86) (by rw [hk]; rfl) (by omega) (by omega) h hx hr c hm)
  clear h1 h2
  have HM1 := Lib.hid e1
  have HM2 := Lib.hid e2
  clear e1 e2
  go_enter Tryz.func56, Tryz.ntmps56
  go_wp2_with fail
  go_loop [3, 11] (fun s3 s11 => Cat1 n1 n2 s3 s11) (fun _ s11 => upM s11)
  case atStart => exact .inl ⟨rfl, rfl⟩
  case round =>
    rcases hrel with ⟨rfl, rfl⟩ | ⟨rfl, rfl⟩ | ⟨rfl, rfl⟩
    · go_wp2_with fail
      exact ⟨.inr (.inl ⟨rfl, rfl⟩), by simp [upM]⟩
    · go_wp2_with fail
      exact ⟨.inr (.inr ⟨rfl, rfl⟩), by simp [upM]⟩
    · go_wp2_with (first | (go_at_call 110; refine (HGW.out _).mono ?_; rintro e w1 ⟨A, c, rfl, ho, hx⟩))
      have HX := Lib.hid hx
      have HO := Lib.hid (show k.own 86 w1 W.heap.size P (.slice A 0 c) [] from ho)
      clear ho hx
      go_loopw [6, 27] (fun s6 s27 w' => Cat2 k 86 P W n1 n2 xs ys s6 s27 w') (fun _ s27 _ => upM s27)
      case atStart => exact ⟨HX.out, .inl ⟨rfl, HO.out, _, _, rfl⟩⟩
      case round =>
        obtain ⟨hxr, hrel⟩ := hrel
        have HXR := Lib.hid hxr
        obtain ⟨q, _⟩ := hxr.cells
        have hq0 := (q g 0 hg).trans hg0
        have hq1 := (q g 1 hg).trans hg1
        clear q hxr
        rcases hrel with ⟨rfl, ho, A', c', rfl⟩ | ⟨rfl, ho, A', c', rfl⟩ | ⟨rfl, ho, A', c', rfl⟩
        · obtain ⟨A3, c3, w3, hrun, ho3, hb3⟩ := HAP.out _ _ _ _ ho HXR.out _ _ H1.out c1 (by simp; omega)
          have HO3 := Lib.hid ho3
          have HB3 := Lib.hid hb3
          clear ho ho3 hb3
          go_wp2_with (first | (at_builtin; refine wpList_append_run (s := .tmp 31) (x := .tmp 32) hrun rfl rfl rfl rfl rfl ?_))
          exact ⟨⟨HB3.out, .inr (.inl ⟨rfl, by simpa using HO3.out, A3, c3, by simp⟩)⟩, by simp [upM]⟩
        · obtain ⟨A3, c3, w3, hrun, ho3, hb3⟩ := HAP.out _ _ _ _ ho HXR.out _ _ H2.out c2 (by have := HM1.out; omega)
          have HO3 := Lib.hid ho3
          have HB3 := Lib.hid hb3
          rw [← HM1.out] at hrun
          clear ho ho3 hb3
          go_wp2_with (first | (at_builtin; refine wpList_append_run (s := .tmp 31) (x := .tmp 32) hrun rfl rfl rfl rfl rfl ?_))
          exact ⟨⟨HB3.out, .inr (.inr ⟨rfl, by have := HO3.out; rw [← HM1.out] at this; exact this, A3, c3, rfl⟩)⟩, by simp [upM]⟩
        · have HO := Lib.hid ho
          clear ho
          go_wp2_with fail
          go_ret
          refine ⟨A', c', ?_, ?_, HXR.out⟩
          · rw [List.length_append, ← HM1.out, ← HM2.out]; rfl
          · rw [List.length_append, ← HM1.out, ← HM2.out]; exact HO.out

theorem info99 : (Tryz.prog.info? 99).map (fun i => (i.zero, i.size, i.bytes)) = some (some (Value.agg #[.string ⟨#[]⟩, .slice none 0 0]), 2, 40) := by kernel_rfl
set_option maxHeartbeats 2000000 in
set_option maxRecDepth 100000 in
theorem grow123 (k : Lay β) (hk : k.sz = 2) (P : Nat → Prop) (n : Nat) (w : World) (hn : n ≤ 100000) : Calls Tryz.prog 123 #[.slice none 0 0, .int .i64 n] w (NewRow k 99 P w []) := by
  by_cases h0 : n = 0
  · subst h0
    go_enter Tryz.func123, Tryz.ntmps123
    go_wp2
    go_ret
    exact ⟨none, 0, rfl, Lay.own_nil _ _ _ _ _, Ext.refl _⟩
  · obtain ⟨i, hi, hz, hs, hb⟩ := info_parts info99
    have hrun := fun W => Lib.run_append_nil_zeros (P := Tryz.prog) W 33 3 33 99 i _ .i64 .i64 Tryz.underlying33 Tryz.underlying3 hi hz n (by omega) (by omega) (by omega) (by rw [hb]; omega)
    have HRUN := Lib.hid hrun
    have hne : ¬ (n : Int) < 0 := by omega
    have hpo : (0 : Int) < (n : Int) := by omega
    clear hrun hi hs hb
    have hz' : (Value.agg #[.string ⟨#[]⟩, .slice none 0 0]).cells.size = 2 := rfl
    go_enter Tryz.func123, Tryz.ntmps123
    go_wp2_with (first | (at_builtin; refine Lib.wpList_append_run _ rfl (.tmp 20) (.tmp 21) 33 3 rfl _ _ rfl rfl _ _ (HRUN.out _) ?_))
    go_ret
    refine ⟨_, _, rfl, ⟨[], ⟨by simp [gcells], .inr ⟨w.heap.size, _, _, rfl, Nat.le_refl _, heap_alloc_new w _, Nat.zero_le _, grownCap_le_maxLen _ _ _ _ (by unfold maxLen; omega), ?_, by simp [gcells]⟩⟩, rfl, fun i d x hd => by simp at hd⟩, ((Ext.refl w).alloc _).drew⟩
    have hg := grownCap_ge w n 0 99
    rw [Array.size_append, size_zeroCells, size_zeroCells, hk]
    simp
    omega
set_option maxHeartbeats 4000000 in
set_option maxRecDepth 100000 in
theorem cat70 (k : Lay β) (hk : k.sz = 2) (P : Nat → Prop) (W : World) (g : Nat) (A1 A2 : Option Addr) (n1 n2 c1 c2 : Nat) (xs ys : List β) (h1 : k.row W P A1 n1 xs) (h2 : k.row W P A2 n2 ys) (hl1 : n1 ≤ 10000) (hl2 : n2 ≤ 10000)
    (hg : g < W.heap.size) (hg0 : W.cell? ⟨g, 0, none⟩ = some (.slice A1 n1 c1)) (hg1 : W.cell? ⟨g, 1, none⟩ = some (.slice A2 n2 c2)) :
    Calls Tryz.prog 70 #[.slice (some ⟨g, 0, none⟩) 2 2] W (NewRow k 99 P W (xs ++ ys)) := by
  have e1 := Lay.row_len h1
  have e2 := Lay.row_len h2
  have H1 := Lib.hid h1
  have H2 := Lib.hid h2
  have HGW := Lib.hid (fun W' => (show Calls Tryz.prog 123 #[.slice none 0 0, .int .i64 ((n1 : Int) + (n2 : Int))] W' (NewRow k 99 P W' []) from by
    have := grow123 k hk P (n1 + n2) W' (by omega)
    rwa [Int.natCast_add] at this))
  have HAP := Lib.hid (fun (X : World) (v : Value) (zs ys : List β) (h : k.own 99 X W.heap.size P v zs) (hx : Ext W X) (A : Option Addr) (m : Nat) (hr : k.row W P A m ys) (c : Nat) (hm : zs.length + m ≤ 100000000) =>
    own_app (Pr := Tryz.prog) (t := 33) (z := Value.agg #[.string ⟨#[]⟩, .slice none 0 0]) Tryz.underlying33 (by rw [hk]; exact info99) (by rw [hk]; rfl) (by omega) (by omega) h hx hr c hm)
  clear h1 h2
  have HM1 := Lib.hid e1
  have HM2 := Lib.hid e2
  clear e1 e2
  go_enter Tryz.func70, Tryz.ntmps70
  go_wp2_with fail
  go_loop [3, 11] (fun s3 s11 => Cat1 n1 n2 s3 s11) (fun _ s11 => upM s11)
  case atStart => exact .inl ⟨rfl, rfl⟩
  case round =>
    rcases hrel with ⟨rfl, rfl⟩ | ⟨rfl, rfl⟩ | ⟨rfl, rfl⟩
    · go_wp2_with fail
      exact ⟨.inr (.inl ⟨rfl, rfl⟩), by simp [upM]⟩
    · go_wp2_with fail
      exact ⟨.inr (.inr ⟨rfl, rfl⟩), by simp [upM]⟩
    · go_wp2_with (first | (go_at_call 123; refine (HGW.out _).mono ?_; rintro e w1 ⟨A, c, rfl, ho, hx⟩))
      have HX := Lib.hid hx
      have HO := Lib.hid (show k.own 99 w1 W.heap.size P (.slice A 0 c) [] from ho)
      clear ho hx
      go_loopw [6, 27] (fun s6 s27 w' => Cat2 k 99 P W n1 n2 xs ys s6 s27 w') (fun _ s27 _ => upM s27)
      case atStart => exact ⟨HX.out, .inl ⟨rfl, HO.out, _, _, rfl⟩⟩
      case round =>
        obtain ⟨hxr, hrel⟩ := hrel
        have HXR := Lib.hid hxr
        obtain ⟨q, _⟩ := hxr.cells
        have hq0 := (q g 0 hg).trans hg0
        have hq1 := (q g 1 hg).trans hg1
        clear q hxr
        rcases hrel with ⟨rfl, ho, A', c', rfl⟩ | ⟨rfl, ho, A', c', rfl⟩ | ⟨rfl, ho, A', c', rfl⟩
        · obtain ⟨A3, c3, w3, hrun, ho3, hb3⟩ := HAP.out _ _ _ _ ho HXR.out _ _ H1.out c1 (by simp; omega)
          have HO3 := Lib.hid ho3
          have HB3 := Lib.hid hb3
          clear ho ho3 hb3
          go_wp2_with (first | (at_builtin; refine wpList_append_run (s := .tmp 31) (x := .tmp 32) hrun rfl rfl rfl rfl rfl ?_))
          exact ⟨⟨HB3.out, .inr (.inl ⟨rfl, by simpa using HO3.out, A3, c3, by simp⟩)⟩, by simp [upM]⟩
        · obtain ⟨A3, c3, w3, hrun, ho3, hb3⟩ := HAP.out _ _ _ _ ho HXR.out _ _ H2.out c2 (by have := HM1.out; omega)
          have HO3 := Lib.hid ho3
          have HB3 := Lib.hid hb3
          rw [← HM1.out] at hrun
          clear ho ho3 hb3
          go_wp2_with (first | (at_builtin; refine wpList_append_run (s := .tmp 31) (x := .tmp 32) hrun rfl rfl rfl rfl rfl ?_))
          exact ⟨⟨HB3.out, .inr (.inr ⟨rfl, by have := HO3.out; rw [← HM1.out] at this; exact this, A3, c3, rfl⟩)⟩, by simp [upM]⟩
        · have HO := Lib.hid ho
          clear ho
          go_wp2_with fail
          go_ret
          refine ⟨A', c', ?_, ?_, HXR.out⟩
          · rw [List.length_append, ← HM1.out, ← HM2.out]; rfl
          · rw [List.length_append, ← HM1.out, ← HM2.out]; exact HO.out
end Go.Proofs.YtdbnddmncbjobaaGreatDoor

/- Arrays of numbers of the call's own; append of one element. -/
namespace Go.Proofs.YtdbnddmncbjobaaGreatDoor
open Go Go.RowKit

variable {β : Type}
/-- The block b holds the numbers l. -/
def Arr (w : World) (b : Nat) (l : List Int) : Prop := w.heap[b]? = some (.cells (l.map (Value.int .i64)).toArray 3 (0, 0))
theorem Arr.lt {w : World} {b : Nat} {l : List Int} (h : Arr w b l) : b < w.heap.size := lt_of_block h
theorem Arr.cell {w : World} {b : Nat} {l : List Int} (h : Arr w b l) {i : Nat} {x : Int} (hi : l[i]? = some x) : w.cell? ⟨b, i, none⟩ = some (.int .i64 x) := by
  unfold Arr at h
  unfold World.cell?
  simp only [h]
  simp [hi]
theorem Arr.frozen {w : World} {b : Nat} {l : List Int} (h : Arr w b l) (i : Nat) : w.frozen? ⟨b, i, none⟩ = false := by
  unfold Arr at h
  unfold World.frozen?
  simp only [h]
  simp
theorem Arr.set {w : World} {b : Nat} {l : List Int} (h : Arr w b l) (i : Nat) (x : Int) : Arr (w.setCell ⟨b, i, none⟩ (.int .i64 x)) b (l.set i x) := by
  unfold Arr at h ⊢
  rw [heap_setCell_same w b i _ 3 _ h]
  simp [List.map_set]
theorem Arr.other {w : World} {b : Nat} {l : List Int} (h : Arr w b l) {a : Addr} (hn : b ≠ a.block) (u : Value) : Arr (w.setCell a u) b l := by
  unfold Arr at h ⊢
  rw [heap_setCell_other w a b u hn]; exact h
theorem Arr.keep {w w' : World} {b : Nat} {l : List Int} (h : Arr w b l) (hk : w'.heap[b]? = w.heap[b]?) : Arr w' b l := by
  unfold Arr at h ⊢
  rw [hk]; exact h
theorem Arr.ext {w w' : World} {b : Nat} {l : List Int} (h : Arr w b l) (hx : Ext w w') : Arr w' b l := by
  unfold Arr at h ⊢
  rw [hx.block b (lt_of_block h)]; exact h
def iCs (x : Int) : Cs kInt.sz := ⟨[.int .i64 x], rfl, fun u hu => by simp only [List.mem_singleton] at hu; subst hu; rfl⟩
theorem iCs_at {l : List Int} {i : Nat} {d : Cs kInt.sz} (h : (l.map iCs)[i]? = some d) : ∃ x, l[i]? = some x ∧ d = iCs x := by
  induction l generalizing i with
  | nil => cases i <;> cases h
  | cons a r ih =>
    cases i with
    | zero => injection h with h; exact ⟨a, rfl, h.symm⟩
    | succ i => exact ih h
theorem Arr.row {w : World} {b : Nat} {l : List Int} (h : Arr w b l) (P : Nat → Prop) (hP : P b) : kInt.row w P (some ⟨b, 0, none⟩) l.length l := by
  refine ⟨l.map iCs, rfl, List.length_map .., ⟨(List.length_map ..).symm, fun _ => ⟨b, 0, rfl, h.lt, fun i a hi j u hu => ?_⟩⟩, fun x hx => ?_, fun i d x hd hx => ?_⟩
  · obtain ⟨x, hl, rfl⟩ := iCs_at hi
    cases j with
    | zero =>
      injection hu with hu
      subst hu
      rw [show kInt.sz = 1 from rfl, show 0 + i * 1 + 0 = i by omega]
      exact h.cell hl
    | succ j => cases hu
  · injection hx with hx; subst hx; exact ⟨hP, h.lt⟩
  · obtain ⟨y, hl, rfl⟩ := iCs_at hd
    rw [hl] at hx
    injection hx with hx
    subst hx
    rfl
theorem Arr.made (w : World) (n : Nat) : Arr (w.alloc (.cells (Array.replicate n (.int .i64 0)) 3)) w.heap.size (List.replicate n 0) := by
  unfold Arr
  rw [heap_alloc_new w]
  simp
/-- append of one element, whose cells lie in a new block. -/
theorem own_app1 {k : Lay β} {Pr : Program} {t e : TypeId} {z : Value} {bytes : Nat} (ht : Pr.underlying t = some (.slice e)) (hinfo : (Pr.info? e).map (fun i => (i.zero, i.size, i.bytes)) = some (some z, k.sz, bytes)) (hzs : z.cells.size = k.sz) (hsz : 0 < k.sz) (hby : bytes ≤ 1000)
    {base : Nat} {X : World} {P : Nat → Prop} {v : Value} {xs : List β} (h : k.own e X base P v xs) (hb : base ≤ X.heap.size) {cs : Array Value} {T : TypeId} {x : β} (hr : k.rep X (fun j => P j ∧ v.ownBlock ≠ some j) x cs.toList) (c : Nat) (hm : xs.length < 100000000) :
    ∃ A' c' w', (Builtin.append_ #[t, t] t #[v, .slice (some ⟨X.heap.size, 0, none⟩) 1 c]).run Pr (X.alloc (.cells cs T)) = .ok (.slice A' (xs.length + 1) c') w' ∧ k.own e w' base P (.slice A' (xs.length + 1) c') (xs ++ [x]) ∧ (∀ B, B ≤ base → Below B X w') ∧
      (∀ j, j < X.heap.size → v.ownBlock ≠ some j → w'.heap[j]? = X.heap[j]?) ∧ X.heap.size ≤ w'.heap.size ∧ (∀ j, (Value.slice A' (xs.length + 1) c').ownBlock = some j → v.ownBlock = some j ∨ X.heap.size ≤ j) := by
  have hx1 : Ext X (X.alloc (.cells cs T)) := (Ext.refl X).alloc _
  have h' := Lay.own_ext h hx1
  obtain ⟨d0, hd0⟩ : ∃ d0 : Cs k.sz, ccf d0 = cs.toList := ⟨⟨cs.toList, k.len hr, k.one hr⟩, rfl⟩
  have hr' : k.rep X (fun j => P j ∧ v.ownBlock ≠ some j) x (ccf d0) := by rw [hd0]; exact hr
  obtain ⟨A', c', w', r1, r2, r3, r4, r5, r6⟩ := Lay.own_append (e := e) ht hinfo hzs hsz hby h' (A := some ⟨X.heap.size, 0, none⟩) (m := 1) (ds' := [d0]) (ys := [x]) (SL.one X d0 cs hd0.symm T) rfl
    (fun i d y hd hy => by
      cases i with
      | zero =>
        injection hd with hd
        injection hy with hy
        subst hd hy
        exact k.ext hr' hx1
      | succ i => cases hd) c (by omega) (Nat.le_trans hb hx1.lt)
  refine ⟨A', c', w', r1, r2, fun B hB => ?_, fun j hj hne => ?_, Nat.le_trans hx1.lt r5, fun j hj => ?_⟩
  · exact ((Below.refl B X).alloc (Nat.le_trans hB hb) _).trans (r3 B hB)
  · rw [r4 j (Nat.lt_of_lt_of_le hj hx1.lt) hne]; exact hx1.block j hj
  · rcases r6 j hj with h6 | h6
    · exact .inl h6
    · exact .inr (Nat.le_trans hx1.lt h6)
/-- Where lines of so many words end. -/
def cum : Int → List Nat → List Int
  | _, [] => []
  | f, l :: ls => (f + l) :: cum (f + l) ls
theorem cum_len (f : Int) (l : List Nat) : (cum f l).length = l.length := by
  induction l generalizing f with
  | nil => rfl
  | cons a r ih => simp [cum, ih]
theorem dwl' {γ : Type} (xs : List γ) {i : Nat} {p : γ} (h : xs[i]? = some p) : xs.drop i = p :: xs.drop (i + 1) := by
  have hl := (List.getElem?_eq_some_iff.1 h).1
  rw [List.drop_eq_getElem_cons hl]
  congr 1
  rw [List.getElem?_eq_getElem hl] at h
  exact Option.some.inj h
theorem chkWs_inv {b : Bool} {nn k : Int} {w : Wd} {r : List Wd} {k1 : Int} (h : chkWs b nn (w :: r) k = .inr k1) :
    validW w.s = true ∧ (w.key = [] ∨ validW w.key = true) ∧ (w.tb = 0 ∨ w.tb = 1) ∧ (w.nt = 0 ∧ chkWs b nn r k = .inr k1 ∨ w.nt ≠ 0 ∧ b = true ∧ w.nt = k + 1 ∧ k + 1 ≤ nn ∧ chkWs b nn r (k + 1) = .inr k1) := by
  simp only [chkWs] at h
  split at h
  · cases h
  · next h1 =>
    simp only [Bool.or_eq_true, Bool.not_eq_true', not_or, Bool.not_eq_false, Bool.and_eq_true, decide_eq_true_eq, not_and, ne_eq] at h1
    split at h
    · cases h
    · next h2 =>
      refine ⟨h1.1, ?_, by omega, ?_⟩
      · by_cases hk : w.key = []
        · exact .inl hk
        · exact .inr (h1.2 hk)
      · split at h
        · next h3 =>
          split at h
          · cases h
          · next h4 =>
            cases b with
            | false => simp at h4
            | true => exact .inr ⟨h3, rfl, by omega, by omega, h⟩
        · next h3 => exact .inl ⟨by omega, h⟩
end Go.Proofs.YtdbnddmncbjobaaGreatDoor

/- The contracts of the reference's generator of words: one, part. -/
namespace Go.Proofs.YtdbnddmncbjobaaGreatDoor
open Go Go.RowKit

def wcf (w : Wd) : List Value := [.string ⟨w.s.toArray⟩, .string ⟨w.key.toArray⟩, .int .i64 w.tb, .int .i64 w.nt]
theorem wcf_len (a : Wd) : (wcf a).length = 4 := rfl
def OkN (v : Wd) : Prop := OkW v ∧ v.nt = 0
def OnePost (w : World) (e : Ending) (w' : World) : Prop := ∃ v : Wd, e = .returned (.agg #[.string ⟨v.s.toArray⟩, .string ⟨v.key.toArray⟩, .int .i64 v.tb, .int .i64 v.nt]) ∧ OkN v ∧ Ext w w'
def OkS (s : List UInt8) : Prop := validW s = true ∧ s.length ≤ 40
/-- A row of strings that are words. -/
def StrBox (W : World) (b n : Nat) : Prop := ∀ k, k < n → ∃ s : List UInt8, W.cell? ⟨b, k, none⟩ = some (.string ⟨s.toArray⟩) ∧ OkS s
theorem StrBox.of (W : World) (l : List (List UInt8)) (hl : ∀ s ∈ l, OkS s) : StrBox (W.alloc (.cells (l.map (fun s => Value.string ⟨s.toArray⟩)).toArray 9)) W.heap.size l.length := fun k hk => by
  refine ⟨l[k], ?_, hl _ (List.getElem_mem hk)⟩
  rw [cell_of_row _ W.heap.size _ _ 9 (0, 0) (heap_alloc_new W _)]
  simp [hk]
theorem voc_box (W : World) : StrBox (W.alloc (.cells #[.string ⟨#[97]⟩, .string ⟨#[116, 104, 101]⟩, .string ⟨#[99, 111, 117, 114, 116]⟩, .string ⟨#[119, 105, 108, 108]⟩, .string ⟨#[104, 101, 97, 114]⟩, .string ⟨#[109, 111, 116, 105, 111, 110]⟩, .string ⟨#[111, 102]⟩, .string ⟨#[112, 108, 97, 105, 110, 116, 105, 102, 102]⟩, .string ⟨#[77, 46, 73, 46, 84, 46]⟩, .string ⟨#[82, 117, 108, 101]⟩, .string ⟨#[49, 50, 40, 98, 41]⟩, .string ⟨#[100, 105, 115, 109, 105, 115, 115, 101, 100]⟩, .string ⟨#[119, 105, 116, 104]⟩, .string ⟨#[112, 114, 101, 106, 117, 100, 105, 99, 101]⟩, .string ⟨#[97, 110, 100]⟩, .string ⟨#[99, 111, 115, 116, 115]⟩, .string ⟨#[87, 87, 87, 64, 87]⟩, .string ⟨#[105, 116]⟩, .string ⟨#[105, 115]⟩, .string ⟨#[115, 111]⟩, .string ⟨#[111, 114, 100, 101, 114, 101, 100, 46]⟩, .string ⟨#[97, 98, 99, 100, 101, 102, 103, 104, 105, 106, 107, 108, 109, 110, 111, 112, 113, 114, 115, 116, 117, 118, 119, 120, 121, 122, 97, 98, 99, 100, 101, 102, 103, 104, 105, 106, 107, 108, 109, 110]⟩] 9)) W.heap.size 22 := StrBox.of W voc voc_ok
theorem key_box (W : World) : StrBox (W.alloc (.cells #[.string ⟨#[99, 111, 115, 116, 115]⟩, .string ⟨#[109, 111, 116, 105, 111, 110]⟩, .string ⟨#[82, 117, 108, 101]⟩, .string ⟨#[115, 109, 105, 116, 104]⟩] 9)) W.heap.size 4 := StrBox.of W vkeys vkeys_ok
/-- A word in a block of its own, not frozen. -/
structure WBox (W : World) (b : Nat) (s k : ByteArray) (t n : Int) : Prop where
  lt : b < W.heap.size
  c0 : W.cell? ⟨b, 0, none⟩ = some (.string s)
  c1 : W.cell? ⟨b, 1, none⟩ = some (.string k)
  c2 : W.cell? ⟨b, 2, none⟩ = some (.int .i64 t)
  c3 : W.cell? ⟨b, 3, none⟩ = some (.int .i64 n)
  f0 : W.frozen? ⟨b, 0, none⟩ = false
  f1 : W.frozen? ⟨b, 1, none⟩ = false
  f2 : W.frozen? ⟨b, 2, none⟩ = false
  f3 : W.frozen? ⟨b, 3, none⟩ = false
theorem WBox.ext {W W' : World} {b : Nat} {s k : ByteArray} {t n : Int} (h : WBox W b s k t n) (hx : Ext W W') : WBox W' b s k t n := by
  obtain ⟨q, p⟩ := hx.cells
  exact ⟨Nat.lt_of_lt_of_le h.lt hx.lt, by rw [q _ _ h.lt]; exact h.c0, by rw [q _ _ h.lt]; exact h.c1, by rw [q _ _ h.lt]; exact h.c2, by rw [q _ _ h.lt]; exact h.c3,
    by rw [p _ _ h.lt]; exact h.f0, by rw [p _ _ h.lt]; exact h.f1, by rw [p _ _ h.lt]; exact h.f2, by rw [p _ _ h.lt]; exact h.f3⟩
theorem WBox.new (W : World) (s k : ByteArray) (t n : Int) (ty : TypeId) : WBox (W.alloc (.cells #[.string s, .string k, .int .i64 t, .int .i64 n] ty)) W.heap.size s k t n :=
  ⟨by simp, by go_simp, by go_simp, by go_simp, by go_simp, by go_simp, by go_simp, by go_simp, by go_simp⟩
theorem Ext.store4 {w W : World} {b : Nat} (h : Ext w W) (hb : w.heap.size ≤ b) (u0 u1 u2 u3 : Value) :
    Ext w ((((W.setCell ⟨b, 0, none⟩ u0).setCell ⟨b, 1, none⟩ u1).setCell ⟨b, 2, none⟩ u2).setCell ⟨b, 3, none⟩ u3) :=
  (((h.setCell (p := ⟨b, 0, none⟩) hb u0).setCell (p := ⟨b, 1, none⟩) hb u1).setCell (p := ⟨b, 2, none⟩) hb u2).setCell (p := ⟨b, 3, none⟩) hb u3
set_option maxHeartbeats 4000000 in
set_option maxRecDepth 100000 in
theorem one_any (n : Nat) (w : World) (hn : n ≤ 100000000) : Calls Tryz.prog 129 #[.int .i64 n] w (OnePost w) := by
  obtain ⟨a, ha⟩ : ∃ a, a = n % 22 := ⟨_, rfl⟩
  obtain ⟨d, hd⟩ : ∃ a, a = n / 22 % 6 := ⟨_, rfl⟩
  obtain ⟨g, hg⟩ : ∃ a, a = n / 132 % 4 := ⟨_, rfl⟩
  obtain ⟨t, ht⟩ : ∃ a, a = n / 528 % 2 := ⟨_, rfl⟩
  have e1 : (n : Int) % 22 = (a : Int) := by omega
  have e2 : (n : Int) / 22 % 6 = (d : Int) := by omega
  have e3 : (n : Int) / 132 % 4 = (g : Int) := by omega
  have e4 : (n : Int) / 528 % 2 = (t : Int) := by omega
  have ha22 : a < 22 := by omega
  have hg4 : g < 4 := by omega
  have ht2 : t < 2 := by omega
  clear ha hd hg ht
  have hvb := voc_box (w.alloc (.cells #[.string ⟨#[]⟩, .string ⟨#[]⟩, .int .i64 0, .int .i64 0] 60))
  have hwb := (WBox.new w ⟨#[]⟩ ⟨#[]⟩ 0 0 60).ext ((Ext.refl _).alloc (.cells #[.string ⟨#[97]⟩, .string ⟨#[116, 104, 101]⟩, .string ⟨#[99, 111, 117, 114, 116]⟩, .string ⟨#[119, 105, 108, 108]⟩, .string ⟨#[104, 101, 97, 114]⟩, .string ⟨#[109, 111, 116, 105, 111, 110]⟩, .string ⟨#[111, 102]⟩, .string ⟨#[112, 108, 97, 105, 110, 116, 105, 102, 102]⟩, .string ⟨#[77, 46, 73, 46, 84, 46]⟩, .string ⟨#[82, 117, 108, 101]⟩, .string ⟨#[49, 50, 40, 98, 41]⟩, .string ⟨#[100, 105, 115, 109, 105, 115, 115, 101, 100]⟩, .string ⟨#[119, 105, 116, 104]⟩, .string ⟨#[112, 114, 101, 106, 117, 100, 105, 99, 101]⟩, .string ⟨#[97, 110, 100]⟩, .string ⟨#[99, 111, 115, 116, 115]⟩, .string ⟨#[87, 87, 87, 64, 87]⟩, .string ⟨#[105, 116]⟩, .string ⟨#[105, 115]⟩, .string ⟨#[115, 111]⟩, .string ⟨#[111, 114, 100, 101, 114, 101, 100, 46]⟩, .string ⟨#[97, 98, 99, 100, 101, 102, 103, 104, 105, 106, 107, 108, 109, 110, 111, 112, 113, 114, 115, 116, 117, 118, 119, 120, 121, 122, 97, 98, 99, 100, 101, 102, 103, 104, 105, 106, 107, 108, 109, 110]⟩] 9))
  have hx2 : Ext w ((w.alloc (.cells #[.string ⟨#[]⟩, .string ⟨#[]⟩, .int .i64 0, .int .i64 0] 60)).alloc (.cells #[.string ⟨#[97]⟩, .string ⟨#[116, 104, 101]⟩, .string ⟨#[99, 111, 117, 114, 116]⟩, .string ⟨#[119, 105, 108, 108]⟩, .string ⟨#[104, 101, 97, 114]⟩, .string ⟨#[109, 111, 116, 105, 111, 110]⟩, .string ⟨#[111, 102]⟩, .string ⟨#[112, 108, 97, 105, 110, 116, 105, 102, 102]⟩, .string ⟨#[77, 46, 73, 46, 84, 46]⟩, .string ⟨#[82, 117, 108, 101]⟩, .string ⟨#[49, 50, 40, 98, 41]⟩, .string ⟨#[100, 105, 115, 109, 105, 115, 115, 101, 100]⟩, .string ⟨#[119, 105, 116, 104]⟩, .string ⟨#[112, 114, 101, 106, 117, 100, 105, 99, 101]⟩, .string ⟨#[97, 110, 100]⟩, .string ⟨#[99, 111, 115, 116, 115]⟩, .string ⟨#[87, 87, 87, 64, 87]⟩, .string ⟨#[105, 116]⟩, .string ⟨#[105, 115]⟩, .string ⟨#[115, 111]⟩, .string ⟨#[111, 114, 100, 101, 114, 101, 100, 46]⟩, .string ⟨#[97, 98, 99, 100, 101, 102, 103, 104, 105, 106, 107, 108, 109, 110, 111, 112, 113, 114, 115, 116, 117, 118, 119, 120, 121, 122, 97, 98, 99, 100, 101, 102, 103, 104, 105, 106, 107, 108, 109, 110]⟩] 9)) := ((Ext.refl w).alloc _).alloc _
  rw [World.size_alloc] at hvb
  have HX2 := Lib.hid hx2
  clear hx2
  go_enter Tryz.func129, Tryz.ntmps129
  go_upto_region 2 with (fail)
  generalize (w.alloc (.cells #[.string ⟨#[]⟩, .string ⟨#[]⟩, .int .i64 0, .int .i64 0] 60)).alloc (.cells #[.string ⟨#[97]⟩, .string ⟨#[116, 104, 101]⟩, .string ⟨#[99, 111, 117, 114, 116]⟩, .string ⟨#[119, 105, 108, 108]⟩, .string ⟨#[104, 101, 97, 114]⟩, .string ⟨#[109, 111, 116, 105, 111, 110]⟩, .string ⟨#[111, 102]⟩, .string ⟨#[112, 108, 97, 105, 110, 116, 105, 102, 102]⟩, .string ⟨#[77, 46, 73, 46, 84, 46]⟩, .string ⟨#[82, 117, 108, 101]⟩, .string ⟨#[49, 50, 40, 98, 41]⟩, .string ⟨#[100, 105, 115, 109, 105, 115, 115, 101, 100]⟩, .string ⟨#[119, 105, 116, 104]⟩, .string ⟨#[112, 114, 101, 106, 117, 100, 105, 99, 101]⟩, .string ⟨#[97, 110, 100]⟩, .string ⟨#[99, 111, 115, 116, 115]⟩, .string ⟨#[87, 87, 87, 64, 87]⟩, .string ⟨#[105, 116]⟩, .string ⟨#[105, 115]⟩, .string ⟨#[115, 111]⟩, .string ⟨#[111, 114, 100, 101, 114, 101, 100, 46]⟩, .string ⟨#[97, 98, 99, 100, 101, 102, 103, 104, 105, 106, 107, 108, 109, 110, 111, 112, 113, 114, 115, 116, 117, 118, 119, 120, 121, 122, 97, 98, 99, 100, 101, 102, 103, 104, 105, 106, 107, 108, 109, 110]⟩] 9) = w2 at *
  obtain ⟨b, hb⟩ : ∃ b, b = w.heap.size := ⟨_, rfl⟩
  rw [← hb] at hvb hwb ⊢
  have HB := Lib.hid hb
  obtain ⟨ss, hS, hSs⟩ := hvb a ha22
  obtain ⟨S, hSe⟩ : ∃ S : ByteArray, S = ⟨ss.toArray⟩ := ⟨_, rfl⟩
  rw [← hSe] at hS
  have HSE := Lib.hid hSe
  have HSS := Lib.hid hSs
  clear hSe hSs
  clear hvb hb
  go_upto_region 3 with (fail)
  have hw3 := WBox.new w2 S ⟨#[]⟩ 0 0 60
  have hwb3 := hwb.ext ((Ext.refl w2).alloc (.cells #[.string S, .string ⟨#[]⟩, .int .i64 0, .int .i64 0] 60))
  have HX3 := Lib.hid (HX2.out.alloc (.cells #[.string S, .string ⟨#[]⟩, .int .i64 0, .int .i64 0] 60))
  have hlt := hwb.lt
  clear hwb hS
  generalize w2.alloc (.cells #[.string S, .string ⟨#[]⟩, .int .i64 0, .int .i64 0] 60) = w3 at *
  obtain ⟨b4, hb4⟩ : ∃ b, b = w2.heap.size := ⟨_, rfl⟩
  rw [← hb4] at hw3 hlt ⊢
  have HB4 := Lib.hid (show w.heap.size ≤ b4 by rw [hb4]; exact HX2.out.lt)
  have hne : b ≠ b4 := by omega
  have hne' : b4 ≠ b := by omega
  clear hb4 hlt
  by_cases hd0 : d = 0
  · have gd : ((d : Int) == 0) = true := by rw [beq_iff_eq]; omega
    have hkb := key_box w3
    have hw4 := hw3.ext ((Ext.refl w3).alloc (.cells #[.string ⟨#[99, 111, 115, 116, 115]⟩, .string ⟨#[109, 111, 116, 105, 111, 110]⟩, .string ⟨#[82, 117, 108, 101]⟩, .string ⟨#[115, 109, 105, 116, 104]⟩] 9))
    have hwb4 := hwb3.ext ((Ext.refl w3).alloc (.cells #[.string ⟨#[99, 111, 115, 116, 115]⟩, .string ⟨#[109, 111, 116, 105, 111, 110]⟩, .string ⟨#[82, 117, 108, 101]⟩, .string ⟨#[115, 109, 105, 116, 104]⟩] 9))
    have HX4 := Lib.hid (HX3.out.alloc (.cells #[.string ⟨#[99, 111, 115, 116, 115]⟩, .string ⟨#[109, 111, 116, 105, 111, 110]⟩, .string ⟨#[82, 117, 108, 101]⟩, .string ⟨#[115, 109, 105, 116, 104]⟩] 9))
    obtain ⟨kk, hK, hKs⟩ := hkb g hg4
    obtain ⟨K, hKe⟩ : ∃ K : ByteArray, K = ⟨kk.toArray⟩ := ⟨_, rfl⟩
    rw [← hKe] at hK
    have HKE := Lib.hid hKe
    have HKS := Lib.hid hKs
    clear hKe
    obtain ⟨z0, y0, y1, y2, y3, y4, y5, y6, y7⟩ := hw4
    obtain ⟨z1, x0, x1, x2, x3, x4, x5, x6, x7⟩ := hwb4
    clear hd0 hkb hw3 hwb3
    have HBL := Lib.hid (Nat.le_of_eq HB.out.symm)
    have HBL4 := Lib.hid HB4.out
    clear hKs
    go_upto_region 4 with (fail)
    go_wp2
    refine bodyPost_ret (v := .agg #[.string S, .string K, .int .i64 t, .int .i64 0]) (by simp [results, Tryz.results129, go_sem, *]) rfl ?_
    refine ⟨⟨ss, kk, t, 0⟩, by rw [HSE.out, HKE.out], ⟨⟨HSS.out.1, .inr HKS.out.1, by simp only; omega, HSS.out.2, HKS.out.2⟩, rfl⟩, Ext.store4 ?_ HBL.out _ _ _ _⟩
    exact ((HX4.out.setCell (p := ⟨b4, 1, none⟩) HBL4.out _).setCell (p := ⟨b4, 2, none⟩) HBL4.out _)
  · have gd : ((d : Int) == 0) = false := by rw [beq_eq_false_iff_ne]; omega
    obtain ⟨z0, y0, y1, y2, y3, y4, y5, y6, y7⟩ := hw3
    obtain ⟨z1, x0, x1, x2, x3, x4, x5, x6, x7⟩ := hwb3
    have HBL := Lib.hid (Nat.le_of_eq HB.out.symm)
    clear hd0
    go_wp2
    refine bodyPost_ret (v := .agg #[.string S, .string ⟨#[]⟩, .int .i64 0, .int .i64 0]) (by simp [results, Tryz.results129, go_sem, *]) rfl ?_
    exact ⟨⟨ss, [], 0, 0⟩, by rw [HSE.out], ⟨⟨HSS.out.1, .inl rfl, .inl rfl, HSS.out.2, by simp⟩, rfl⟩, HX3.out.store4 HBL.out _ _ _ _⟩
end Go.Proofs.YtdbnddmncbjobaaGreatDoor

/- The contracts of Pick, part. -/
namespace Go.Proofs.YtdbnddmncbjobaaGreatDoor
open Go Go.RowKit

theorem neg_tmod_in (n m : Int) (h : n < 0) (h3 : 1 ≤ m) : (n + 1).tmod m ≤ 0 ∧ -(n + 1).tmod m < m := by
  have e : -((n + 1).tmod m) = (-(n + 1)) % m := by rw [← Int.neg_tmod, Int.tmod_eq_emod_of_nonneg (by omega)]
  have hb1 := Int.emod_nonneg (-(n + 1)) (show m ≠ 0 by omega)
  have hb2 := Int.emod_lt_of_pos (-(n + 1)) (show 0 < m by omega)
  omega
def arnd (n m : Int) : Int := (if n < 0 then -(n + 1) else n) % m
theorem arnd_in (n m : Int) (h : 1 ≤ m) : 0 ≤ arnd n m ∧ arnd n m < m :=
  ⟨Int.emod_nonneg _ (by omega), Int.emod_lt_of_pos _ (by omega)⟩
theorem arnd_neg {n m : Int} (h : n < 0) : -((n + 1).tmod m) = arnd n m := by
  unfold arnd
  rw [if_pos h, ← Int.neg_tmod, Int.tmod_eq_emod_of_nonneg (by omega)]
theorem arnd_pos {n m : Int} (h : ¬ n < 0) : n % m = arnd n m := by unfold arnd; rw [if_neg h]
theorem around_fn (n m : Int) (w : World) (h1 : -9223372036854775808 ≤ n) (h2 : n ≤ 9223372036854775807) (h3 : 1 ≤ m) (h4 : m ≤ 1000000000) :
    Calls Tryz.prog 42 #[.int .i64 n, .int .i64 m] w fun e w' => e = .returned (.int .i64 (arnd n m)) ∧ w = w' := by
  by_cases h : n < 0
  · have hb := neg_tmod_in n m h h3
    have HB := Lib.hid hb; clear hb
    have HE := Lib.hid (arnd_neg (m := m) h)
    go_enter Tryz.func42, Tryz.ntmps42
    go_wp2
    go_ret
    exact ⟨ret_int (by simpa using HE.out), rfl⟩
  · have HE := Lib.hid (arnd_pos (m := m) h)
    go_enter Tryz.func42, Tryz.ntmps42
    go_wp2
    go_ret
    exact ⟨ret_int (by simpa using HE.out), rfl⟩
theorem SL.at {α : Type} {cf : α → List Value} {sz : Nat} {W : World} {A : Option Addr} {m : Nat} {l : List α} (h : SL cf sz W A m l) {k : Nat} (hk : k < m) :
    ∃ b off a, A = some ⟨b, off, none⟩ ∧ b < W.heap.size ∧ l[k]? = some a ∧ a ∈ l ∧ ∀ j u, (cf a)[j]? = some u → W.cell? ⟨b, off + k * sz + j, none⟩ = some u := by
  obtain ⟨b, off, rfl, hb, hc⟩ := h.2 (by omega)
  have hl : k < l.length := by rw [← h.1]; exact hk
  exact ⟨b, off, l[k], rfl, hb, List.getElem?_eq_getElem hl, List.getElem_mem hl, fun j u hu => hc k _ (List.getElem?_eq_getElem hl) j u hu⟩
theorem around_nat (n : Int) (m : Nat) (h3 : 1 ≤ m) : ∃ k : Nat, arnd n m = k ∧ k < m := by
  obtain ⟨a, b⟩ := arnd_in n m (by omega)
  exact ⟨(arnd n m).toNat, by omega, by omega⟩
def icf (n : Int) : List Value := [.int .i64 n]
/-- What Pick answers. -/
def pkI (l : List Int) (i m : Nat) : Int := match l[i]? with | some n => arnd n m | none => 0
theorem pk_nat (l : List Int) (i m : Nat) (h : 1 ≤ m) : ∃ k : Nat, pkI l i m = k ∧ k < m := by
  unfold pkI
  cases l[i]? with
  | none => exact ⟨0, rfl, by omega⟩
  | some n => exact around_nat n m h
set_option maxRecDepth 100000 in
theorem pick_any (A : Option Addr) (c : Nat) (l : List Int) (i m : Nat) (w : World) (hm : 1 ≤ m) (hm2 : m ≤ 1000000000) (hb : ∀ n ∈ l, -9223372036854775808 ≤ n ∧ n ≤ 9223372036854775807) (h : SL icf 1 w A l.length l) :
    Calls Tryz.prog 77 #[.slice A l.length c, .int .i64 i, .int .i64 m] w fun e w' => e = .returned (.int .i64 (pkI l i m)) ∧ w = w' := by
  by_cases hil : i < l.length
  · obtain ⟨b, off, n, rfl, hbb, hn, hmem, hc⟩ := h.at hil
    have HP := Lib.hid (show pkI l i m = arnd n m by unfold pkI; rw [hn])
    have hc0 := hc 0 (.int .i64 n) rfl
    rw [Nat.mul_one, Nat.add_zero] at hc0
    have HA := Lib.hid (fun X => around_fn n m X (hb n hmem).1 (hb n hmem).2 (by omega) (by omega))
    have hni : ¬ (l.length : Int) ≤ (i : Int) := by omega
    clear hc hn h
    go_enter Tryz.func77, Tryz.ntmps77
    go_wp2_with (first | (go_at_call 42; refine (HA.out _).mono ?_; rintro e w1 ⟨rfl, rfl⟩))
    go_ret
    exact ⟨ret_int (by rw [HP.out]), rfl⟩
  · have HP := Lib.hid (show pkI l i m = 0 by unfold pkI; rw [List.getElem?_eq_none (by omega)])
    have hni : (l.length : Int) ≤ (i : Int) := by omega
    clear h
    go_enter Tryz.func77, Tryz.ntmps77
    go_wp2
    go_ret
    exact ⟨ret_int (by rw [HP.out]), rfl⟩
theorem wcf_one (a : Wd) : ∀ u ∈ wcf a, u.oneCell' = true := fun u hu => by
  simp only [wcf, List.mem_cons, List.not_mem_nil, or_false] at hu
  rcases hu with rfl | rfl | rfl | rfl <;> rfl
theorem info60 : (Tryz.prog.info? 60).map (fun i => (i.zero, i.size, i.bytes)) = some (some (.agg #[.string ⟨#[]⟩, .string ⟨#[]⟩, .int .i64 0, .int .i64 0]), 4, 48) := by kernel_rfl
theorem ap44_one (X : World) {base : Nat} {v : Value} {l : List Wd} (ho : OL wcf 4 X base 60 v l) (a : Wd) (b : Nat) (hb : b = X.heap.size) (hm : l.length ≤ 10000000) (hbase : base ≤ X.heap.size) :
    ∃ A' c' w', (Builtin.append_ #[54, 54] 54 #[v, .slice (some ⟨b, 0, none⟩) 1 1]).run Tryz.prog (X.alloc (.cells #[.string ⟨a.s.toArray⟩, .string ⟨a.key.toArray⟩, .int .i64 a.tb, .int .i64 a.nt] 60)) = .ok (.slice A' (l.length + 1) c') w' ∧
      OL wcf 4 w' base 60 (.slice A' (l.length + 1) c') (l ++ [a]) ∧ Below base X w' := by
  subst hb
  obtain ⟨A', c', w', h1, h2, h3, _⟩ := OL.append (cf := wcf) (sz := 4) (l' := [a]) wcf_len wcf_one (by omega) Tryz.underlying54 info60 rfl (by omega) (ho.ext ((Ext.refl X).alloc _)) (SL.one (cf := wcf) (sz := 4) X a #[.string ⟨a.s.toArray⟩, .string ⟨a.key.toArray⟩, .int .i64 a.tb, .int .i64 a.nt] rfl 60) 1 (by omega) (by simp; omega)
  exact ⟨A', c', w', h1, h2, Below.trans (Below.mono ((Ext.refl X).alloc _) hbase) (h3 base (Nat.le_refl _))⟩
def PaRel (W : World) (lim : Nat) (s5 s6 s7 : Value) (w' : World) : Prop := ∃ (i : Nat) (x : Int) (A : Option Addr) (c : Nat) (l : List Wd), i ≤ lim ∧ s7 = .int .i64 i ∧ s5 = .int .u32 x ∧ 0 ≤ x ∧ x ≤ 4294967295 ∧ s6 = .slice A l.length c ∧ OL wcf 4 w' W.heap.size 60 s6 l ∧ l.length = i ∧ (∀ v ∈ l, OkN v) ∧ Ext W w'
/-- A paragraph in a block of its own. -/
def GpPost (W : World) (m : Nat) (e : Ending) (W' : World) : Prop := ∃ (A : Option Addr) (c : Nat) (l : List Wd), e = .returned (.slice A l.length c) ∧ OL wcf 4 W' W.heap.size 60 (.slice A l.length c) l ∧ 1 ≤ l.length ∧ l.length ≤ m ∧ (∀ v ∈ l, OkN v) ∧ Ext W W'
theorem bits_in (op : BinOp) (x y : Int) : 0 ≤ bits op .u32 x y ∧ bits op .u32 x y ≤ 4294967295 := by
  unfold bits
  simp only
  rw [IntKind.wrap_u32]
  constructor
  · exact Int.emod_nonneg _ (by decide)
  · exact Int.le_of_lt_add_one (Int.emod_lt_of_pos _ (by decide))
set_option maxHeartbeats 4000000 in
set_option maxRecDepth 100000 in
theorem gpart_any (n m : Nat) (w : World) (hn : n ≤ 1000000) (hm : 1 ≤ m) (hm2 : m ≤ 100) : Calls Tryz.prog 78 #[.int .i64 n, .int .i64 m] w (GpPost w m) := by
  have HO := Lib.hid (fun (k : Nat) (hk : k ≤ 100000000) X => one_any k X hk)
  go_enter Tryz.func78, Tryz.ntmps78
  go_upto_region 4 with (fail)
  obtain ⟨hb1, hb2⟩ := bits_in BinOp.or n 1
  generalize bits BinOp.or IntKind.u32 (n : Int) 1 = x0 at *
  obtain ⟨r, hr⟩ : ∃ r, r = n % m := ⟨_, rfl⟩
  have er : (n : Int) % (m : Int) = (r : Int) := by omega
  have hrm : r < m := by rw [hr]; exact Nat.mod_lt _ (by omega)
  clear hr
  go_loopw [5, 6, 7] (fun s5 s6 s7 w' => PaRel w (1 + r) s5 s6 s7 w') (fun _ _ s7 _ => toM 1000 s7)
  case atStart => exact ⟨0, x0, none, 0, [], by omega, rfl, rfl, hb1, hb2, rfl, OL.nil _ _ _, rfl, (fun v h => by cases h), Ext.refl _⟩
  case round =>
    obtain ⟨i, x, A, c, l, hi, rfl, rfl, hx0, hx1, rfl, ho, hl, hb, hxr⟩ := hrel
    have HOL := Lib.hid ho
    have HXR := Lib.hid hxr
    have HLN := Lib.hid hl
    have HBD := Lib.hid hb
    have hl5 : l.length ≤ 1000 := by omega
    clear ho hxr hl hb
    by_cases hir : i < 1 + r
    · have hirI : (i : Int) < 1 + (r : Int) := by omega
      have hi5 : (i : Int) ≤ 1000 := by omega
      go_upto_region 7 with (fail)
      obtain ⟨y, hy⟩ : ∃ y : Int, y = (x * 1664525 % 4294967296 + 1013904223) % 4294967296 := ⟨_, rfl⟩
      rw [← hy]
      have hy0 : 0 ≤ y ∧ y ≤ 4294967295 := by omega
      obtain ⟨q, hq⟩ : ∃ q : Nat, y / 256 = (q : Int) := ⟨(y / 256).toNat, by omega⟩
      have hq2 : q ≤ 100000000 := by omega
      have HQ := Lib.hid (HO.out q hq2)
      clear hy
      obtain ⟨hy1, hy2⟩ := hy0
      go_wp2_with (first | (go_at_call 129; refine (HQ.out _).mono ?_; rintro e w1 ⟨v, rfl, hvs, hx⟩; obtain ⟨A5, c5, w5, hrun, ho5, hb5⟩ := ap44_one w1 (HOL.out.ext hx) v w1.heap.size rfl (by omega) (Nat.le_trans HXR.out.lt hx.lt); have HO5 := Lib.hid ho5; have HB5 := Lib.hid hb5; have HVS := Lib.hid hvs; have HX5 := Lib.hid hx; clear ho5 hb5 hvs hx) | (at_builtin; refine wpList_append_run (s := .tmp 22) (x := .tmp 27) hrun rfl rfl rfl rfl rfl ?_))
      refine ⟨⟨i + 1, y, A5, c5, l ++ [v], by omega, rfl, rfl, hy1, hy2, by rw [List.length_append]; rfl, HO5.out, by rw [List.length_append, HLN.out]; rfl, fun u hu => ?_, Below.trans (HXR.out.trans HX5.out) HB5.out⟩, by simp only [toM]; omega⟩
      rcases List.mem_append.1 hu with h | h
      · exact HBD.out u h
      · obtain rfl : u = v := by simpa using h
        exact HVS.out
    · have hirI : ¬ (i : Int) < 1 + (r : Int) := by omega
      have hi1 : 1 ≤ i := by omega
      go_wp2
      go_ret
      exact ⟨A, c, l, rfl, HOL.out, by rw [HLN.out]; exact hi1, by have := HLN.out; omega, HBD.out, HXR.out⟩
end Go.Proofs.YtdbnddmncbjobaaGreatDoor

/- Rows of words by their blocks; the contracts of refer and last. -/
namespace Go.Proofs.YtdbnddmncbjobaaGreatDoor
open Go Go.RowKit

/-- The block g holds the words l, and is not frozen. -/
def WRow (W : World) (g : Nat) (l : List Wd) : Prop := ∃ cs t, W.heap[g]? = some (.cells cs t (0, 0)) ∧ ∀ (k : Nat) (v : Wd), l[k]? = some v → ∀ j u, (wcf v)[j]? = some u → cs[k * 4 + j]? = some u
theorem WRow.same {W W' : World} {g : Nat} {l : List Wd} (h : WRow W g l) (he : W'.heap[g]? = W.heap[g]?) : WRow W' g l := by
  obtain ⟨cs, t, h1, h2⟩ := h
  exact ⟨cs, t, he.trans h1, h2⟩
theorem WRow.lt {W : World} {g : Nat} {l : List Wd} (h : WRow W g l) : g < W.heap.size := by
  obtain ⟨cs, t, h1, _⟩ := h
  exact lt_of_block h1
theorem WRow.ext {W W' : World} {g : Nat} {l : List Wd} (h : WRow W g l) (hx : Ext W W') : WRow W' g l := h.same (hx.block g h.lt)
theorem WRow.cell {W : World} {g : Nat} {l : List Wd} (h : WRow W g l) {k : Nat} {v : Wd} (hk : l[k]? = some v) {j : Nat} {u : Value} (hu : (wcf v)[j]? = some u) : W.cell? ⟨g, k * 4 + j, none⟩ = some u := by
  obtain ⟨cs, t, h1, h2⟩ := h
  rw [cell_of_row W g _ cs t (0, 0) h1]; exact h2 k v hk j u hu
theorem WRow.froz {W : World} {g : Nat} {l : List Wd} (h : WRow W g l) (i : Nat) : W.frozen? ⟨g, i, none⟩ = false := by
  obtain ⟨cs, t, h1, _⟩ := h
  exact frozen_of_row W g i cs t h1
theorem heap_set_other (W : World) (p : Addr) (u : Value) (k : Nat) (h : p.block ≠ k) : (W.setCell p u).heap[k]? = W.heap[k]? := by
  simp [World.setCell, Array.getElem?_modify, h]
theorem WRow.set {W : World} {g : Nat} {l : List Wd} (h : WRow W g l) {k : Nat} {v v' : Wd} (hk : l[k]? = some v) {j : Nat} {u : Value} (hj : j < 4) (hv : wcf v' = (wcf v).set j u) : WRow (W.setCell ⟨g, k * 4 + j, none⟩ u) g (l.set k v') := by
  have h0 := h
  obtain ⟨cs, t, h1, h2⟩ := h
  refine ⟨cs.setIfInBounds (k * 4 + j) u, t, ?_, fun i x hi j' u' hu' => ?_⟩
  · simp [World.setCell, Array.getElem?_modify, h1]
  · have hkl : k < l.length := (List.getElem?_eq_some_iff.1 hk).1
    have hj4 : j' < 4 := by have := (List.getElem?_eq_some_iff.1 hu').1; simpa [wcf] using this
    by_cases hik : i = k
    · subst hik
      rw [List.getElem?_set_self hkl] at hi
      obtain rfl := Option.some.inj hi
      rw [hv, List.getElem?_set] at hu'
      by_cases hjj : j = j'
      · subst hjj
        rw [if_pos rfl, if_pos (by simp [wcf]; exact hj)] at hu'
        rw [Array.getElem?_setIfInBounds, if_pos rfl]
        have hc : cs[i * 4 + j]?.isSome = true := by
          have : ∃ a, (wcf v)[j]? = some a := ⟨_, List.getElem?_eq_getElem (by simp [wcf]; exact hj)⟩
          obtain ⟨a, ha⟩ := this
          rw [h2 i v hk j a ha]; rfl
        have hlt : i * 4 + j < cs.size := by
          rcases Nat.lt_or_ge (i * 4 + j) cs.size with h | h
          · exact h
          · rw [Array.getElem?_eq_none h] at hc; cases hc
        rw [if_pos hlt]; exact hu'
      · rw [if_neg hjj] at hu'
        rw [Array.getElem?_setIfInBounds, if_neg (by omega)]
        exact h2 i v hk j' u' hu'
    · rw [List.getElem?_set_ne (fun e => hik e.symm)] at hi
      rw [Array.getElem?_setIfInBounds, if_neg (by omega)]
      exact h2 i x hi j' u' hu'
def BoolIs (b : Bool) (w : World) (e : Ending) (w' : World) : Prop := e = .returned (.bool b) ∧ w' = w
/-- refer's answer: at most one Note cell of the row is written. -/
def RefPost (W : World) (g : Nat) (l : List Wd) (n : Nat) (note : Int) (later : Bool) (e : Ending) (W' : World) : Prop :=
  (e = .returned (.bool false) ∧ W' = W ∧ (later = true ∨ l.length ≤ fromGo l 0 0)) ∨ ∃ v, l[fromGo l 0 0 + n % (l.length - fromGo l 0 0)]? = some v ∧ e = .returned (.bool true) ∧ W' = W.setCell ⟨g, (fromGo l 0 0 + n % (l.length - fromGo l 0 0)) * 4 + 3, none⟩ (.int .i64 note) ∧ later = false ∧ fromGo l 0 0 < l.length
def RfRel (l : List Wd) (n : Nat) (s9 s10 : Value) : Prop := ∃ f i : Nat, f ≤ i ∧ i ≤ n ∧ fromGo l 0 0 = fromGo (l.drop i) i f ∧ s9 = .int .i64 f ∧ s10 = .int .i64 i
set_option maxHeartbeats 4000000 in
set_option maxRecDepth 100000 in
theorem refer_any (W : World) (g c : Nat) (l : List Wd) (n : Nat) (note : Int) (later : Bool) (h : WRow W g l) (hl : l.length ≤ 1000) (hn : n ≤ 1000000) :
    Calls Tryz.prog 79 #[.slice (some ⟨g, 0, none⟩) l.length c, .int .i64 n, .int .i64 note, .bool later] W (RefPost W g l n note later) := by
  have HR := Lib.hid h
  clear h
  obtain ⟨m, hm⟩ : ∃ m, m = l.length := ⟨_, rfl⟩
  rw [← hm] at hl ⊢
  have HM := Lib.hid hm
  clear hm
  go_enter Tryz.func79, Tryz.ntmps79
  go_wp2
  go_loop [9, 10] (fun s9 s10 => RfRel l m s9 s10) (fun _ s10 => toM m s10)
  case atStart => exact ⟨0, 0, by omega, by omega, rfl, rfl, rfl⟩
  case round =>
    obtain ⟨f, i, hf, hi, hfg, rfl, rfl⟩ := hrel
    have HFG := Lib.hid hfg
    clear hfg
    by_cases him : i < m
    · have himI : (i : Int) < (m : Int) := by omega
      obtain ⟨v, hv⟩ : ∃ v, l[i]? = some v := ⟨_, List.getElem?_eq_getElem (by have := HM.out; omega)⟩
      have c3 := HR.out.cell hv (j := 3) (u := .int .i64 v.nt) rfl
      have HST := Lib.hid (show fromGo l 0 0 = fromGo (l.drop (i + 1)) (i + 1) (if v.nt ≠ 0 then i + 1 else f) by rw [HFG.out, dwl' l hv]; rfl)
      clear hv
      by_cases hz : v.nt = 0
      · have gz : (v.nt != 0) = false := by rw [bne_eq_false_iff_eq]; exact hz
        have HZ := Lib.hid hz
        clear hz
        go_wp2
        exact ⟨⟨f, i + 1, by omega, by omega, by rw [HST.out, if_neg (by simpa using HZ.out)], rfl, rfl⟩, by simp only [toM]; omega⟩
      · have gz : (v.nt != 0) = true := by rw [bne_iff_ne]; exact hz
        have HZ := Lib.hid hz
        clear hz
        go_wp2
        exact ⟨⟨i + 1, i + 1, by omega, by omega, by rw [HST.out, if_pos HZ.out], rfl, rfl⟩, by simp only [toM]; omega⟩
    · obtain rfl : i = m := by omega
      have hni : ¬ ((i : Int) < (i : Int)) := by omega
      have HF0 := Lib.hid (show fromGo l 0 0 = f by rw [HFG.out, List.drop_of_length_le (by have := HM.out; omega)]; rfl)
      cases later with
      | true =>
        go_wp2
        go_ret
        exact .inl ⟨rfl, rfl, .inl rfl⟩
      | false =>
        by_cases hfm : f < i
        · have hfI : ¬ (i : Int) ≤ (f : Int) := by omega
          obtain ⟨r, hr⟩ : ∃ r, r = n % (i - f) := ⟨_, rfl⟩
          have hrl : r < i - f := by rw [hr]; exact Nat.mod_lt _ (by omega)
          have e1 : (n : Int) % ((i : Int) - (f : Int)) = (r : Int) := by
            rw [hr, show (i : Int) - (f : Int) = ((i - f : Nat) : Int) by omega]; omega
          have hk : f + r < l.length := by have := HM.out; omega
          obtain ⟨v, hv⟩ : ∃ v, l[f + r]? = some v := ⟨_, List.getElem?_eq_getElem hk⟩
          have c3 := HR.out.cell hv (j := 3) (u := .int .i64 v.nt) rfl
          have f3 := HR.out.froz ((f + r) * 4 + 3)
          have HV := Lib.hid (show l[fromGo l 0 0 + n % (l.length - fromGo l 0 0)]? = some v by rw [HF0.out, ← HM.out, ← hr]; exact hv)
          have HX := Lib.hid (show fromGo l 0 0 + n % (l.length - fromGo l 0 0) = f + r by rw [HF0.out, ← HM.out, ← hr])
          have hd : (1 : Int) ≤ (i : Int) - (f : Int) := by omega
          have hrI : (f : Int) + (r : Int) < (i : Int) := by omega
          clear hr hv hk
          go_wp2
          go_ret
          exact .inr ⟨v, HV.out, rfl, by rw [HX.out], rfl, by rw [HF0.out]; have := HM.out; omega⟩
        · have hfI : (i : Int) ≤ (f : Int) := by omega
          go_wp2
          go_ret
          exact .inl ⟨rfl, rfl, .inr (by rw [HF0.out]; have := HM.out; omega)⟩
/-- A slice as plain data. -/
structure Sl where
  A : Option Addr
  n : Nat
  c : Nat
def Sl.val (s : Sl) : Value := .slice s.A s.n s.c
def slc (s : Sl) : List Value := [s.val]
theorem slc_len (a : Sl) : (slc a).length = 1 := rfl
theorem slc_one (a : Sl) : ∀ u ∈ slc a, u.oneCell' = true := fun u hu => by
  obtain rfl : u = a.val := by simpa [slc] using hu
  rfl
theorem OL.base {α : Type} {cf : α → List Value} {sz : Nat} {w : World} {base base' : Nat} {e : TypeId} {v : Value} {l : List α} (h : OL cf sz w base e v l) (hb : base' ≤ base) : OL cf sz w base' e v l := by
  refine ⟨h.1, ?_⟩
  rcases h.2 with h2 | ⟨g, cap, cur, h1, h2, h3⟩
  · exact .inl h2
  · exact .inr ⟨g, cap, cur, h1, Nat.le_trans hb h2, h3⟩
/-- The headers ps and the rows of words ll. -/
def PRows (W : World) (ps : List Sl) (ll : List (List Wd)) : Prop := ps.length = ll.length ∧ ∀ (i : Nat) (s : Sl) (l : List Wd), ps[i]? = some s → ll[i]? = some l → ∃ g c, s = ⟨some ⟨g, 0, none⟩, l.length, c⟩ ∧ WRow W g l ∧ 1 ≤ l.length ∧ l.length ≤ 1000
def LaRel (ll : List (List Wd)) (k n : Nat) (s5 : Value) : Prop := ∃ i : Nat, k + 1 ≤ i ∧ i ≤ n + k + 1 ∧ (ll.drop (k + 1)).any hasNote = (ll.drop i).any hasNote ∧ s5 = .int .i64 i
def LiRel (l : List Wd) (n : Nat) (s6 : Value) : Prop := ∃ i : Nat, i ≤ n ∧ hasNote l = hasNote (l.drop i) ∧ s6 = .int .i64 i
set_option maxHeartbeats 4000000 in
set_option maxRecDepth 100000 in
theorem last_any (W : World) (A : Option Addr) (c : Nat) (ps : List Sl) (ll : List (List Wd)) (k : Nat) (hs : SL slc 1 W A ps.length ps) (hr : PRows W ps ll) (hn : ps.length ≤ 1000) (hk : k ≤ 1000) :
    Calls Tryz.prog 80 #[.slice A ps.length c, .int .i64 k] W (BoolIs ((ll.drop (k + 1)).any hasNote) W) := by
  have HS := Lib.hid hs
  have HR := Lib.hid hr
  clear hs hr
  obtain ⟨n, hnn⟩ : ∃ n, n = ps.length := ⟨_, rfl⟩
  rw [← hnn] at HS hn ⊢
  have HN := Lib.hid hnn
  clear hnn
  go_enter Tryz.func80, Tryz.ntmps80
  go_wp2
  go_loop [5] (fun s5 => LaRel ll k n s5) (fun s5 => toM (n + k + 1) s5)
  case atStart => exact ⟨k + 1, by omega, by omega, rfl, by simp⟩
  case round =>
    obtain ⟨i, h1, h2, hda, rfl⟩ := hrel
    have HDA := Lib.hid hda
    clear hda
    by_cases hin : i < n
    · have hinI : (i : Int) < (n : Int) := by omega
      obtain ⟨b, off, s, rfl, hb, hps, _, hcs⟩ := SL.at HS.out hin
      obtain ⟨l, hll⟩ : ∃ l, ll[i]? = some l := ⟨_, List.getElem?_eq_getElem (by have := HR.out.1; have := HN.out; omega)⟩
      obtain ⟨g, cc, rfl, hw, hl1, hl2⟩ := HR.out.2 i s l hps hll
      have HDL := Lib.hid (show (ll.drop i).any hasNote = (hasNote l || (ll.drop (i + 1)).any hasNote) by rw [dwl' ll hll]; rfl)
      have hc0 := hcs 0 (.slice (some ⟨g, 0, none⟩) l.length cc) rfl
      rw [Nat.mul_one, Nat.add_zero] at hc0
      have HW := Lib.hid hw
      obtain ⟨m, hm⟩ : ∃ m, m = l.length := ⟨_, rfl⟩
      rw [← hm] at hc0 hl2
      have HM := Lib.hid hm
      have hi5 : (i : Int) ≤ 5000 := by omega
      clear hcs hps hll hw hm
      go_wp2
      go_loop [6] (fun s6 => LiRel l m s6) (fun s6 => toM m s6)
      case atStart => exact ⟨0, by omega, rfl, rfl⟩
      case round =>
        obtain ⟨j, hj, hhn, rfl⟩ := hrel
        have HHN := Lib.hid hhn
        clear hhn
        by_cases hjm : j < m
        · have hjI : (j : Int) < (m : Int) := by omega
          obtain ⟨v, hv⟩ : ∃ v, l[j]? = some v := ⟨_, List.getElem?_eq_getElem (by have := HM.out; omega)⟩
          have c3 := HW.out.cell hv (j := 3) (u := .int .i64 v.nt) rfl
          have HHS := Lib.hid (show hasNote l = (decide (v.nt ≠ 0) || hasNote (l.drop (j + 1))) by rw [HHN.out, dwl' l hv]; rfl)
          clear hv
          by_cases hz : v.nt = 0
          · have gz : (v.nt != 0) = false := by rw [bne_eq_false_iff_eq]; exact hz
            have HZ := Lib.hid hz
            clear hz
            go_wp2
            exact ⟨⟨j + 1, by omega, by rw [HHS.out]; simp [HZ.out], rfl⟩, by simp only [toM]; omega⟩
          · have gz : (v.nt != 0) = true := by rw [bne_iff_ne]; exact hz
            have HZ := Lib.hid hz
            clear hz
            go_wp2
            go_ret
            exact ⟨by rw [HDA.out, HDL.out, HHS.out]; simp [HZ.out], rfl⟩
        · have hjI : ¬ (j : Int) < (m : Int) := by omega
          have HHE := Lib.hid (show hasNote l = false by rw [HHN.out, List.drop_of_length_le (by have := HM.out; omega)]; rfl)
          go_wp2
          exact ⟨⟨i + 1, by omega, by omega, by rw [HDA.out, HDL.out, HHE.out]; rfl, rfl⟩, by simp only [toM]; omega⟩
    · have hinI : ¬ (i : Int) < (n : Int) := by omega
      have HDE := Lib.hid (show (ll.drop (k + 1)).any hasNote = false by rw [HDA.out, List.drop_of_length_le (by have := HR.out.1; have := HN.out; omega)]; rfl)
      go_wp2
      go_ret
      exact ⟨by rw [HDE.out]; rfl, rfl⟩
end Go.Proofs.YtdbnddmncbjobaaGreatDoor

/- Rows of rows of words, apart from each other: Paras and Notes. -/
namespace Go.Proofs.YtdbnddmncbjobaaGreatDoor
open Go Go.RowKit

/-- A paragraph: its block, its capacity, its words. -/
structure Pq where
  g : Nat
  c : Nat
  l : List Wd
def Pq.sl (p : Pq) : Sl := ⟨some ⟨p.g, 0, none⟩, p.l.length, p.c⟩
def PqOk (W : World) (B : Nat) (p : Pq) : Prop := WRow W p.g p.l ∧ B ≤ p.g ∧ 1 ≤ p.l.length ∧ p.l.length ≤ 1000 ∧ p.l.length ≤ p.c ∧ ∀ v ∈ p.l, OkW v
/-- The headers lie in a row of the call's own, each paragraph in a block of its own. -/
def TR (W : World) (B : Nat) (v : Value) (pg : List Pq) : Prop := OL slc 1 W B 54 v (pg.map Pq.sl) ∧ ∀ p ∈ pg, PqOk W B p
def Feet (v : Value) (pg : List Pq) : List Nat := v.ownBlock.toList ++ pg.map Pq.g
theorem OL.lts {α : Type} {cf : α → List Value} {sz : Nat} {w : World} {B : Nat} {e : TypeId} {v : Value} {l : List α} (h : OL cf sz w B e v l) : ∀ k, v.ownBlock = some k → B ≤ k ∧ k < w.heap.size := World.ownsRow.lt h
theorem OL.keep {α : Type} {cf : α → List Value} {sz : Nat} {w w' : World} {B : Nat} {e : TypeId} {v : Value} {l : List α} (h : OL cf sz w B e v l) (hk : ∀ k, v.ownBlock = some k → w'.heap[k]? = w.heap[k]?) : OL cf sz w' B e v l := by
  refine ⟨h.1, ?_⟩
  rcases h.2 with h2 | ⟨g, cap, cur, h1, h2, h3, h4⟩
  · exact .inl h2
  · exact .inr ⟨g, cap, cur, h1, h2, by rw [hk g (by rw [h1]; rfl)]; exact h3, h4⟩
theorem TR.lts {W : World} {B : Nat} {v : Value} {pg : List Pq} (h : TR W B v pg) : ∀ k ∈ Feet v pg, B ≤ k ∧ k < W.heap.size := by
  intro k hk
  rcases List.mem_append.1 hk with hk | hk
  · exact OL.lts h.1 k (by simpa using hk)
  · obtain ⟨p, hp, rfl⟩ := List.mem_map.1 hk
    exact ⟨(h.2 p hp).2.1, (h.2 p hp).1.lt⟩
theorem TR.keep {W W' : World} {B : Nat} {v : Value} {pg : List Pq} (h : TR W B v pg) (hk : ∀ k ∈ Feet v pg, W'.heap[k]? = W.heap[k]?) : TR W' B v pg := by
  refine ⟨OL.keep h.1 (fun k e => hk k (List.mem_append_left _ (by simpa using e))), fun p hp => ?_⟩
  obtain ⟨a, b⟩ := h.2 p hp
  exact ⟨a.same (hk p.g (List.mem_append_right _ (List.mem_map_of_mem hp))), b⟩
theorem TR.ext {W W' : World} {B : Nat} {v : Value} {pg : List Pq} (h : TR W B v pg) (hx : Ext W W') : TR W' B v pg := h.keep (fun k hk => hx.block k (h.lts k hk).2)
theorem TR.nil (W : World) (B : Nat) : TR W B (.slice none 0 0) [] := ⟨OL.nil W B 54, fun p hp => by cases hp⟩
theorem TR.rows {W : World} {B : Nat} {v : Value} {pg : List Pq} (h : TR W B v pg) : PRows W (pg.map Pq.sl) (pg.map Pq.l) := by
  refine ⟨by simp, fun i s l hs hl => ?_⟩
  rw [List.getElem?_map] at hs hl
  obtain ⟨p, hp, rfl⟩ := Option.map_eq_some_iff.1 hs
  obtain ⟨q, hq, rfl⟩ := Option.map_eq_some_iff.1 hl
  obtain rfl : p = q := Option.some.inj (hp.symm.trans hq)
  obtain ⟨a, _, b, c, _⟩ := h.2 p (List.mem_of_getElem? hp)
  exact ⟨p.g, p.c, rfl, a, b, c⟩
/-- Two rows of rows, all of whose blocks differ. -/
def TXs (W : World) (B : Nat) (v : Value) (pg : List Pq) (v' : Value) (pn : List Pq) : Prop := TR W B v pg ∧ TR W B v' pn ∧ (Feet v pg ++ Feet v' pn).Nodup
theorem TXs.symm {W : World} {B : Nat} {v v' : Value} {pg pn : List Pq} (h : TXs W B v pg v' pn) : TXs W B v' pn v pg := ⟨h.2.1, h.1, (List.perm_append_comm.nodup_iff).1 h.2.2⟩
theorem TXs.keep {W W' : World} {B : Nat} {v v' : Value} {pg pn : List Pq} (h : TXs W B v pg v' pn) (hk : ∀ k, B ≤ k → k < W.heap.size → W'.heap[k]? = W.heap[k]?) : TXs W' B v pg v' pn :=
  ⟨h.1.keep (fun k e => hk k (h.1.lts k e).1 (h.1.lts k e).2), h.2.1.keep (fun k e => hk k (h.2.1.lts k e).1 (h.2.1.lts k e).2), h.2.2⟩
theorem TXs.ext {W W' : World} {B : Nat} {v v' : Value} {pg pn : List Pq} (h : TXs W B v pg v' pn) (hx : Ext W W') : TXs W' B v pg v' pn := h.keep (fun k _ hk => hx.block k hk)
theorem TXs.nil (W : World) (B : Nat) : TXs W B (.slice none 0 0) [] (.slice none 0 0) [] := ⟨TR.nil W B, TR.nil W B, by simp [Feet, Value.ownBlock]⟩
theorem TR.at {W : World} {B : Nat} {v : Value} {pg : List Pq} (h : TR W B v pg) {i : Nat} (hi : i < pg.length) : ∃ b cap p, v = .slice (some ⟨b, 0, none⟩) pg.length cap ∧ v.ownBlock = some b ∧ pg[i]? = some p ∧ PqOk W B p ∧ W.cell? ⟨b, i, none⟩ = some (.slice (some ⟨p.g, 0, none⟩) p.l.length p.c) := by
  obtain ⟨A, c, e, _, hh⟩ := own_form h.1
  rw [List.length_map] at e
  obtain ⟨p, hp⟩ : ∃ p, pg[i]? = some p := ⟨_, List.getElem?_eq_getElem hi⟩
  rcases hh with ⟨_, hn, _⟩ | ⟨g, rfl, _, _, hc⟩
  · rw [List.length_map] at hn; omega
  · refine ⟨g, c, p, e, by rw [e]; rfl, hp, h.2 p (List.mem_of_getElem? hp), hc i _ ?_⟩
    have := gcells_at slc_len (pg.map Pq.sl) i p.sl (by rw [List.getElem?_map, hp]; rfl) 0 (by omega)
    rw [Nat.mul_one, Nat.add_zero] at this
    rw [this]; rfl
theorem WRow.own {W : World} {B : Nat} {A : Option Addr} {c : Nat} {l : List Wd} (h : OL wcf 4 W B 60 (.slice A l.length c) l) (h1 : 1 ≤ l.length) : ∃ g, A = some ⟨g, 0, none⟩ ∧ B ≤ g ∧ g < W.heap.size ∧ WRow W g l := by
  rcases h.2 with ⟨_, h2⟩ | ⟨g, cap, cur, e, hb, hg, hn, _, _, ht⟩
  · omega
  · simp only [Value.slice.injEq] at e
    refine ⟨g, e.1, hb, lt_of_block hg, cur, 60, hg, fun k v hk j u hu => ?_⟩
    have hj : j < 4 := by have := (List.getElem?_eq_some_iff.1 hu).1; simpa [wcf] using this
    have h2 := (gcells_at wcf_len l k v hk j hj).trans hu
    rw [← ht] at h2
    rw [List.getElem?_take] at h2
    split at h2
    · simpa using h2
    · cases h2
/-- append of a fresh paragraph to the first row. -/
theorem TXs.append {W0 X : World} {B : Nat} {v v' : Value} {pg pn : List Pq} (h : TXs W0 B v pg v' pn) (p : Pq) (b : Nat) (hx : Ext W0 X) (hg : W0.heap.size ≤ p.g) (hp : WRow X p.g p.l) (h1 : 1 ≤ p.l.length) (h2 : p.l.length ≤ 1000) (h3 : p.l.length ≤ p.c ∧ ∀ v ∈ p.l, OkW v) (hb : b = X.heap.size)
    (hm : pg.length ≤ 10000) (hB : B ≤ W0.heap.size) :
    ∃ A' c' w', (Builtin.append_ #[51, 51] 51 #[v, .slice (some ⟨b, 0, none⟩) 1 1]).run Tryz.prog (X.alloc (.cells #[.slice (some ⟨p.g, 0, none⟩) p.l.length p.c] 54)) = .ok (.slice A' (pg.length + 1) c') w' ∧
      TXs w' B (.slice A' (pg.length + 1) c') (pg ++ [p]) v' pn ∧ Below B X w' := by
  subst hb
  obtain ⟨Y, hY⟩ : ∃ Y, Y = X.alloc (.cells #[.slice (some ⟨p.g, 0, none⟩) p.l.length p.c] 54) := ⟨_, rfl⟩
  have hXY : Ext X Y := by rw [hY]; exact (Ext.refl X).alloc _
  have hYs : Y.heap.size = X.heap.size + 1 := by rw [hY]; simp
  have hpl := hp.lt
  have hso := SL.one (cf := slc) (sz := 1) X p.sl #[.slice (some ⟨p.g, 0, none⟩) p.l.length p.c] rfl 54
  rw [← hY] at hso ⊢
  have hY2 := h.ext (hx.trans hXY)
  obtain ⟨_, hs⟩ := hso
  obtain ⟨A', c', w', r1, r2, r3, r4, r5⟩ := run_append_src5 (P := Tryz.prog) (t := 51) (e := 54) (size := 1) (bytes := 24) (base := B) Tryz.underlying51 info54 rfl (by omega) hY2.1.1 (A := some ⟨X.heap.size, 0, none⟩) (m := 1) (c := 1) (news := gcells slc [p.sl]) (gcells_len slc_len [p.sl])
    (fun _ => ⟨X.heap.size, 0, rfl, fun j u hu => by
      obtain ⟨b, off, e, _, hc⟩ := hs (by omega)
      simp only [Option.some.injEq, Addr.mk.injEq] at e
      obtain ⟨rfl, rfl, _⟩ := e
      obtain rfl : j = 0 := by
        have := (List.getElem?_eq_some_iff.1 hu).1
        simp [gcells, slc] at this; exact this
      have := hc 0 p.sl rfl 0 u (by simpa [gcells] using hu)
      simpa using this⟩)
    (gcells_one slc_one [p.sl]) (by simp [maxLen]; omega) (by simp; omega) (by omega)
  rw [List.length_map] at r1 r2 r5
  have hsz : Y.heap.size ≤ w'.heap.size := (r3 B (Nat.le_refl _)).size
  have hkeep : ∀ k, k < Y.heap.size → v.ownBlock ≠ some k → w'.heap[k]? = Y.heap[k]? := fun k hk hne => r4 k hk (fun a e => hne (by rw [e]; rfl))
  have hnd := hY2.2.2
  have hl1 := hx.lt
  have hlt1 : ∀ k ∈ Feet v pg, B ≤ k ∧ k < W0.heap.size := h.1.lts
  have hlt2 : ∀ k ∈ Feet v' pn, B ≤ k ∧ k < W0.heap.size := h.2.1.lts
  refine ⟨A', c', w', r1, ⟨⟨?_, fun q hq => ?_⟩, hY2.2.1.keep (fun k hk => hkeep k (by have := hlt2 k hk; omega) (fun e => ?_)), ?_⟩, ?_⟩
  · unfold OL
    rw [List.map_append, List.length_append, gcells_append, List.length_map]
    exact r2
  · rcases List.mem_append.1 hq with hq | hq
    · obtain ⟨a, bb⟩ := hY2.1.2 q hq
      refine ⟨a.same (hkeep q.g a.lt (fun e => ?_)), bb⟩
      have := (List.nodup_append.1 (List.nodup_append.1 hnd).1).2.2 q.g (by rw [e]; simp) q.g (List.mem_map_of_mem hq)
      exact this rfl
    · obtain rfl : q = p := by simpa using hq
      refine ⟨(hp.ext hXY).same (hkeep q.g (by omega) (fun e => ?_)), by omega, h1, h2, h3⟩
      have := OL.lts h.1.1 q.g e
      omega
  · exact (List.nodup_append.1 hnd).2.2 k (List.mem_append_left _ (by rw [e]; simp)) k hk rfl
  · have hin : ∀ k ∈ pg.map Pq.g ++ Feet v' pn, k < W0.heap.size := fun k hk => by
      rcases List.mem_append.1 hk with hk | hk
      · exact (hlt1 k (List.mem_append_right _ hk)).2
      · exact (hlt2 k hk).2
    have hsub : (pg.map Pq.g ++ Feet v' pn).Nodup := by
      simp only [Feet] at hnd ⊢
      rw [List.append_assoc] at hnd
      exact (List.nodup_append.1 hnd).2.1
    have hperm : (pg.map Pq.g ++ [p.g] ++ Feet v' pn).Perm (p.g :: (pg.map Pq.g ++ Feet v' pn)) := by
      rw [List.append_assoc]; exact List.perm_middle
    have hnew : (pg.map Pq.g ++ [p.g] ++ Feet v' pn).Nodup := hperm.nodup_iff.2 (List.nodup_cons.2 ⟨fun e => by have := hin _ e; omega, hsub⟩)
    have e2 : Feet (.slice A' (pg.length + 1) c') (pg ++ [p]) ++ Feet v' pn = (Value.slice A' (pg.length + 1) c').ownBlock.toList ++ (pg.map Pq.g ++ [p.g] ++ Feet v' pn) := by simp [Feet]
    rw [e2]
    rcases r5 with e | e
    · rw [e]
      rcases ho : v.ownBlock with _ | k0
      · simpa using hnew
      · refine List.nodup_cons.2 ⟨fun hm2 => ?_, hnew⟩
        have hk0 := hlt1 k0 (by simp [Feet, ho])
        rcases List.mem_cons.1 (hperm.mem_iff.1 hm2) with h3 | h3
        · omega
        · simp only [Feet, ho] at hnd
          rw [List.append_assoc] at hnd
          exact (List.nodup_append.1 hnd).2.2 k0 (by simp) k0 h3 rfl
    · rw [e]
      refine List.nodup_cons.2 ⟨fun hm2 => ?_, hnew⟩
      rcases List.mem_cons.1 (hperm.mem_iff.1 hm2) with h3 | h3
      · omega
      · have := hin _ h3; omega
  · exact Below.trans (Below.mono hXY (by omega)) (r3 B (Nat.le_refl _))
/-- A store into a word of the first row's paragraph i. -/
theorem TXs.set {W : World} {B : Nat} {v v' : Value} {pg pn : List Pq} (h : TXs W B v pg v' pn) {i : Nat} {p : Pq} (hi : pg[i]? = some p) {k : Nat} {x x' : Wd} (hk : p.l[k]? = some x) {j : Nat} {u : Value} (hj : j < 4) (hv : wcf x' = (wcf x).set j u) (hz : OkW x') :
    TXs (W.setCell ⟨p.g, k * 4 + j, none⟩ u) B v (pg.set i { p with l := p.l.set k x' }) v' pn := by
  obtain ⟨h1, h2, h3⟩ := h
  have hmem := List.mem_of_getElem? hi
  have hil := (List.getElem?_eq_some_iff.1 hi).1
  have eg : (pg.set i { p with l := p.l.set k x' }).map Pq.g = pg.map Pq.g := by
    rw [List.map_set]
    apply List.ext_getElem?
    intro n
    rw [List.getElem?_set]
    split
    · next hn => subst hn; rw [if_pos (by simpa using hil), List.getElem?_map, hi]; rfl
    · rfl
  have es : (pg.set i { p with l := p.l.set k x' }).map Pq.sl = pg.map Pq.sl := by
    rw [List.map_set]
    apply List.ext_getElem?
    intro n
    rw [List.getElem?_set]
    split
    · next hn => subst hn; rw [if_pos (by simpa using hil), List.getElem?_map, hi]; simp [Pq.sl]
    · rfl
  have hn1 := List.nodup_append.1 h3
  have hn2 := List.nodup_append.1 hn1.1
  have ho : OL slc 1 (W.setCell ⟨p.g, k * 4 + j, none⟩ u) B 54 v (pg.map Pq.sl) := by
    refine OL.keep h1.1 (fun q e => heap_set_other _ _ _ _ (fun e2 => ?_))
    simp only at e2
    exact hn2.2.2 q (by rw [e]; simp) q (by rw [← e2]; exact List.mem_map_of_mem hmem) rfl
  refine ⟨⟨by rw [es]; exact ho, fun q hq => ?_⟩, h2.keep (fun q hq => heap_set_other _ _ _ _ (fun e2 => ?_)), by simpa only [Feet, eg] using h3⟩
  · obtain ⟨n, hn⟩ := List.getElem?_of_mem hq
    rw [List.getElem?_set] at hn
    split at hn
    · obtain rfl := Option.some.inj hn
      obtain ⟨a, b1, b2, b3, b4⟩ := h1.2 p hmem
      refine ⟨a.set hk hj hv, b1, by simpa using b2, by simpa using b3, by simpa using b4.1, fun v hv2 => ?_⟩
      rcases List.mem_or_eq_of_mem_set hv2 with h9 | rfl
      · exact b4.2 v h9
      · exact hz
    · next hne =>
      have hqm := List.mem_of_getElem? hn
      obtain ⟨a, b⟩ := h1.2 q hqm
      refine ⟨a.same (heap_set_other _ _ _ _ (fun e2 => ?_)), b⟩
      simp only at e2
      have hnl := (List.getElem?_eq_some_iff.1 hn).1
      have hpw := List.pairwise_iff_getElem.1 hn2.2.1
      have e3 : (pg.map Pq.g)[i]'(by simpa using hil) = (pg.map Pq.g)[n]'(by simpa using hnl) := by
        simp only [List.getElem_map]
        rw [(List.getElem?_eq_some_iff.1 hi).2, (List.getElem?_eq_some_iff.1 hn).2]; exact e2
      rcases Nat.lt_or_gt_of_ne hne with h | h
      · exact hpw i n (by simpa using hil) (by simpa using hnl) h e3
      · exact hpw n i (by simpa using hnl) (by simpa using hil) h e3.symm
  · simp only at e2
    exact hn1.2.2 p.g (List.mem_append_right _ (List.mem_map_of_mem hmem)) p.g (by rw [e2]; exact hq) rfl
end Go.Proofs.YtdbnddmncbjobaaGreatDoor

/- The contract of Text. -/
namespace Go.Proofs.YtdbnddmncbjobaaGreatDoor
open Go Go.RowKit

theorem gstep_append_run {P : Program} {w : World} {ops : Array Oper} {o : Oper} {a : Act} {K : Act → World → Prop} {Q : Exit → Act → World → Prop} {E : Prop} {s x : Operand} {t : TypeId} {vs vx v' : Value} {w' : World}
    (hr : (Builtin.append_ #[t, t] t #[vs, vx]).run P w = .ok v' w') (hgd : o.guard = none)
    (ho : o.op = .call { callee := .builtin .append, args := #[s, x], argTypes := #[t, t] }) (hty : o.type = t) (hs : a.eval s = vs) (hx : a.eval x = vx)
    (h : K (a.put o.dst v') w') : if Region.wanted o (yielded ops a.tmps) = true then Oper.wp P o a w K Q else E := by
  have hw : Region.wanted o (yielded ops a.tmps) = true := by simp [Region.wanted, hgd]
  rw [if_pos hw]
  unfold Oper.wp execOp
  simp only [ho, hty, resolve, invoke, builtin, Sem.run_bind, Sem.run_pure, Result.andThen_ok, List.map_toArray, List.map_cons, List.map_nil, hs, hx, hr]
  exact h
theorem pick_fix (A : Option Addr) (c : Nat) (l : List Int) (i m : Nat) (w : World) (ii mm : Int) (hi : ii = (i : Int)) (hmm : mm = (m : Int)) (hm : 1 ≤ m) (hm2 : m ≤ 1000000000) (hb : ∀ n ∈ l, -9223372036854775808 ≤ n ∧ n ≤ 9223372036854775807) (h : SL icf 1 w A l.length l) :
    Calls Tryz.prog 77 #[.slice A l.length c, .int .i64 ii, .int .i64 mm] w fun e w' => e = .returned (.int .i64 (pkI l i m)) ∧ w = w' := by
  subst hi; subst hmm
  exact pick_any A c l i m w hm hm2 hb h
/-- The state of Text: t's cells, its rows. -/
def TS (w W : World) (vp : Value) (pg : List Pq) (vn : Value) (pn : List Pq) : Prop := TXs W (w.heap.size + 2) vp pg vn pn ∧ W.heap[w.heap.size + 1]? = some (.cells #[vp, vn] 53 (0, 0)) ∧ W.heap[w.heap.size]? = some (.cells #[.slice none 0 0, .slice none 0 0] 53 (0, 0)) ∧ Ext w W
theorem TS.size {w W : World} {vp vn : Value} {pg pn : List Pq} (h : TS w W vp pg vn pn) : w.heap.size + 2 ≤ W.heap.size := lt_of_block h.2.1
theorem TS.ext {w W W' : World} {vp vn : Value} {pg pn : List Pq} (h : TS w W vp pg vn pn) (hx : Ext W W') : TS w W' vp pg vn pn := by
  have hs := h.size
  exact ⟨h.1.ext hx, (hx.block _ (by omega)).trans h.2.1, (hx.block _ (by omega)).trans h.2.2.1, h.2.2.2.trans hx⟩
theorem TS.c0 {w W : World} {vp vn : Value} {pg pn : List Pq} (h : TS w W vp pg vn pn) : W.cell? ⟨w.heap.size + 1, 0, none⟩ = some vp := by rw [cell_of_row W _ _ _ 53 (0, 0) h.2.1]; rfl
theorem TS.c1 {w W : World} {vp vn : Value} {pg pn : List Pq} (h : TS w W vp pg vn pn) : W.cell? ⟨w.heap.size + 1, 1, none⟩ = some vn := by rw [cell_of_row W _ _ _ 53 (0, 0) h.2.1]; rfl
theorem TS.f0 {w W : World} {vp vn : Value} {pg pn : List Pq} (h : TS w W vp pg vn pn) (i : Nat) : W.frozen? ⟨w.heap.size + 1, i, none⟩ = false := frozen_of_row W _ i _ 53 h.2.1
theorem TS.g0 {w W : World} {vp vn : Value} {pg pn : List Pq} (h : TS w W vp pg vn pn) (i : Nat) : W.frozen? ⟨w.heap.size, i, none⟩ = false := frozen_of_row W _ i _ 53 h.2.2.1
theorem TS.store {w W : World} {vp vn v0 v1 u : Value} {pg pn : List Pq} (hr : TXs W (w.heap.size + 2) vp pg vn pn) (ht : W.heap[w.heap.size + 1]? = some (.cells #[v0, v1] 53 (0, 0))) (hr2 : W.heap[w.heap.size]? = some (.cells #[.slice none 0 0, .slice none 0 0] 53 (0, 0))) (hx : Ext w W) (i : Nat) (e : (#[v0, v1] : Array Value).setIfInBounds i u = #[vp, vn]) :
    TS w (W.setCell ⟨w.heap.size + 1, i, none⟩ u) vp pg vn pn := by
  refine ⟨hr.keep (fun k h1 _ => heap_set_other _ _ _ _ (by simp only; omega)), ?_, (heap_set_other _ _ _ _ (by simp only; omega)).trans hr2, hx.setCell (by simp only; omega) _⟩
  simp [World.setCell, Array.getElem?_modify, ht, e]
theorem TS.app0 {w W0 X : World} {vp vn : Value} {pg pn : List Pq} (h : TS w W0 vp pg vn pn) (p : Pq) (b : Nat) (hx : Ext W0 X) (hg : W0.heap.size ≤ p.g) (hp : WRow X p.g p.l) (h1 : 1 ≤ p.l.length) (h2 : p.l.length ≤ 1000) (h3 : p.l.length ≤ p.c ∧ ∀ v ∈ p.l, OkW v) (hb : b = X.heap.size) (hm : pg.length ≤ 10000) :
    ∃ A' c' w', (Builtin.append_ #[51, 51] 51 #[vp, .slice (some ⟨b, 0, none⟩) 1 1]).run Tryz.prog (X.alloc (.cells #[.slice (some ⟨p.g, 0, none⟩) p.l.length p.c] 54)) = .ok (.slice A' (pg.length + 1) c') w' ∧
      (w'.cell? ⟨w.heap.size + 1, 0, none⟩ = some vp ∧ w'.frozen? ⟨w.heap.size + 1, 0, none⟩ = false) ∧ TS w (w'.setCell ⟨w.heap.size + 1, 0, none⟩ (.slice A' (pg.length + 1) c')) (.slice A' (pg.length + 1) c') (pg ++ [p]) vn pn := by
  obtain ⟨A', c', w', r1, r2, r3⟩ := h.1.append p b hx hg hp h1 h2 h3 hb hm h.size
  have hX := h.ext hx
  have k1 := (r3.block (w.heap.size + 1) (by omega)).trans hX.2.1
  have k2 := (r3.block w.heap.size (by omega)).trans hX.2.2.1
  exact ⟨A', c', w', r1, ⟨by rw [cell_of_row w' _ _ _ 53 (0, 0) k1]; rfl, frozen_of_row w' _ 0 _ 53 k1⟩, TS.store r2 k1 k2 (Below.trans hX.2.2.2 (Below.mono r3 (by omega))) 0 rfl⟩
theorem TS.app1 {w W0 X : World} {vp vn : Value} {pg pn : List Pq} (h : TS w W0 vp pg vn pn) (p : Pq) (b : Nat) (hx : Ext W0 X) (hg : W0.heap.size ≤ p.g) (hp : WRow X p.g p.l) (h1 : 1 ≤ p.l.length) (h2 : p.l.length ≤ 1000) (h3 : p.l.length ≤ p.c ∧ ∀ v ∈ p.l, OkW v) (hb : b = X.heap.size) (hm : pn.length ≤ 10000) :
    ∃ A' c' w', (Builtin.append_ #[51, 51] 51 #[vn, .slice (some ⟨b, 0, none⟩) 1 1]).run Tryz.prog (X.alloc (.cells #[.slice (some ⟨p.g, 0, none⟩) p.l.length p.c] 54)) = .ok (.slice A' (pn.length + 1) c') w' ∧
      (w'.cell? ⟨w.heap.size + 1, 1, none⟩ = some vn ∧ w'.frozen? ⟨w.heap.size + 1, 1, none⟩ = false) ∧ TS w (w'.setCell ⟨w.heap.size + 1, 1, none⟩ (.slice A' (pn.length + 1) c')) vp pg (.slice A' (pn.length + 1) c') (pn ++ [p]) := by
  obtain ⟨A', c', w', r1, r2, r3⟩ := h.1.symm.append p b hx hg hp h1 h2 h3 hb hm h.size
  have hX := h.ext hx
  have k1 := (r3.block (w.heap.size + 1) (by omega)).trans hX.2.1
  have k2 := (r3.block w.heap.size (by omega)).trans hX.2.2.1
  exact ⟨A', c', w', r1, ⟨by rw [cell_of_row w' _ _ _ 53 (0, 0) k1]; rfl, frozen_of_row w' _ 1 _ 53 k1⟩, TS.store r2.symm k1 k2 (Below.trans hX.2.2.2 (Below.mono r3 (by omega))) 1 rfl⟩
theorem TS.setP {w W : World} {vp vn : Value} {pg pn : List Pq} (h : TS w W vp pg vn pn) {i : Nat} {p : Pq} (hi : pg[i]? = some p) {k : Nat} {x : Wd} (hk : p.l[k]? = some x) (note : Int) :
    TS w (W.setCell ⟨p.g, k * 4 + 3, none⟩ (.int .i64 note)) vp (pg.set i { p with l := p.l.set k { x with nt := note } }) vn pn := by
  have hB := (h.1.1.2 p (List.mem_of_getElem? hi)).2.1
  exact ⟨h.1.set hi hk (by omega) rfl ((h.1.1.2 p (List.mem_of_getElem? hi)).2.2.2.2.2 x (List.mem_of_getElem? hk)), (heap_set_other _ _ _ _ (by simp only; omega)).trans h.2.1, (heap_set_other _ _ _ _ (by simp only; omega)).trans h.2.2.1, h.2.2.2.setCell (by simp only; omega) _⟩
def RefAt (w : World) (m i hb : Nat) (vp vn : Value) (pg pn : List Pq) (p : Pq) (n : Nat) (note : Int) (later : Bool) (e : Ending) (W' : World) : Prop := ∃ (b : Bool) (pg' : List Pq), e = .returned (.bool b) ∧ (W'.cell? ⟨w.heap.size + 1, 0, none⟩ = some vp ∧ W'.cell? ⟨w.heap.size + 1, 1, none⟩ = some vn ∧ W'.cell? ⟨hb, i, none⟩ = some (.slice (some ⟨p.g, 0, none⟩) p.l.length p.c)) ∧ pg'.length = m ∧ TS w W' vp pg' vn pn ∧
  (b = false → pg' = pg) ∧ (b = true → later = false ∧ fromGo p.l 0 0 < p.l.length ∧ ∃ v, p.l[fromGo p.l 0 0 + n % (p.l.length - fromGo p.l 0 0)]? = some v ∧ pg'.map Pq.l = (pg.map Pq.l).set i (p.l.set (fromGo p.l 0 0 + n % (p.l.length - fromGo p.l 0 0)) { v with nt := note }))
theorem refer_at (w W : World) (vp vn : Value) (pg pn : List Pq) (h : TS w W vp pg vn pn) (i hb : Nat) (p : Pq) (hi : pg[i]? = some p) (ho : vp.ownBlock = some hb) (hc : W.cell? ⟨hb, i, none⟩ = some (.slice (some ⟨p.g, 0, none⟩) p.l.length p.c)) (n : Nat) (hn : n ≤ 1000000) (note : Int) (later : Bool) :
    Calls Tryz.prog 79 #[.slice (some ⟨p.g, 0, none⟩) p.l.length p.c, .int .i64 n, .int .i64 note, .bool later] W (RefAt w pg.length i hb vp vn pg pn p n note later) := by
  obtain ⟨hr, hB, _, h4, _⟩ := h.1.1.2 p (List.mem_of_getElem? hi)
  refine (refer_any W p.g p.c p.l n note later hr h4 hn).mono ?_
  rintro e W' (⟨rfl, rfl, _⟩ | ⟨v, hv, rfl, rfl, hl, hf⟩)
  · exact ⟨false, pg, rfl, ⟨h.c0, h.c1, hc⟩, rfl, h, fun _ => rfl, fun h => by cases h⟩
  · have h2 := h.setP hi hv note
    refine ⟨true, _, rfl, ⟨h2.c0, h2.c1, ?_⟩, by simp, h2, fun h => by (cases h), fun _ => ⟨hl, hf, v, hv, by rw [List.map_set]⟩⟩
    have hne : p.g ≠ hb := fun e => by
      have h5 := (List.nodup_append.1 (List.nodup_append.1 h.1.2.2).1).2.2 hb (by rw [ho]; simp) p.g (List.mem_map_of_mem (List.mem_of_getElem? hi))
      exact h5 e.symm
    rw [World.cell?_of_block (heap_set_other W ⟨p.g, _, none⟩ (.int .i64 note) hb hne)]
    exact hc
/-- A reference to a further note, and the note. -/
theorem okT_refer {ps notes : List (List Wd)} (h : OkT ⟨ps, notes⟩) {p : Nat} {l : List Wd} (hp : ps[p]? = some l) (hlater : (ps.drop (p + 1)).any hasNote = false) (hf : fromGo l 0 0 < l.length) {v : Wd} {n : Nat} {note : Int} (hnote : note = (notes.length : Int) + 1)
    (hv : l[fromGo l 0 0 + n % (l.length - fromGo l 0 0)]? = some v) {q : List Wd} (h1 : 1 ≤ q.length) (h12 : q.length ≤ 12) (hq : ∀ w ∈ q, OkN w) (hn3 : notes.length + 1 ≤ 3) :
    OkT ⟨ps.set p (l.set (fromGo l 0 0 + n % (l.length - fromGo l 0 0)) { v with nt := note }), notes ++ [q]⟩ := by
  obtain ⟨k, hk⟩ : ∃ k, k = fromGo l 0 0 + n % (l.length - fromGo l 0 0) := ⟨_, rfl⟩
  have hm : referG l n (notes.length + 1) false = some (l.set k { v with nt := note }) := by
    unfold referG
    simp only [Bool.false_or]
    rw [if_neg (by simpa using hf), ← hk]
    congr 1
    rw [← hk] at hv
    apply List.ext_getElem?
    intro j
    rw [List.getElem?_modify, List.getElem?_set]
    by_cases hj : k = j
    · subst hj
      rw [if_pos rfl, if_pos (List.getElem?_eq_some_iff.1 hv).1, hv, hnote]
      simp
    · rw [if_neg hj]; simp [hj]
  rw [← hk]
  obtain ⟨_, g2, g3, g4⟩ := referG_ok hm (by omega)
  have hpl := (List.getElem?_eq_some_iff.1 hp).1
  have hlm := List.mem_of_getElem? hp
  have e : ps = ps.take p ++ l :: ps.drop (p + 1) := by rw [← dwl' ps hp, List.take_append_drop]
  have es : ps.set p (l.set k { v with nt := note }) = ps.take p ++ l.set k { v with nt := note } :: ps.drop (p + 1) := by
    rw [List.set_eq_take_append_cons_drop, if_pos hpl]
  have hmem : ∀ x ∈ ps.set p (l.set k { v with nt := note }), x ∈ ps ∨ x = l.set k { v with nt := note } := fun x hx => (List.mem_or_eq_of_mem_set hx)
  refine ⟨⟨fun x hx => ?_, fun x hx w hw => ?_⟩, by simpa using h.np, by simpa using hn3, fun x hx => ?_, fun x hx => ?_, ?_⟩
  · rcases hmem x hx with hx | rfl
    · exact h.par.len x hx
    · rw [g3]; exact h.par.len l hlm
  · rcases hmem x hx with hx | rfl
    · exact h.par.ok x hx w hw
    · obtain ⟨u, hu, rfl | rfl⟩ := g4 w hw
      · exact h.par.ok l hlm _ hu
      · have h9 := h.par.ok l hlm _ hu
        exact h9
  · rcases List.mem_append.1 hx with hx | hx
    · exact h.len x hx
    · simp only [List.mem_singleton] at hx; subst hx; exact ⟨h1, h12⟩
  · rcases List.mem_append.1 hx with hx | hx
    · exact h.ok x hx
    · simp only [List.mem_singleton] at hx; subst hx; exact hq
  · have hrf := h.rf
    simp only at hrf ⊢
    rw [es, List.flatten_append, List.flatten_cons, refs_append, refs_append, g2, refs_flat_nil hlater]
    rw [e, List.flatten_append, List.flatten_cons, refs_append, refs_append, refs_flat_nil hlater] at hrf
    rw [List.length_append, List.length_singleton, upto_succ, ← hrf]
    simp
theorem okT_start {ps : List (List Wd)} (hn : 1 ≤ ps.length ∧ ps.length ≤ 4) (h : ∀ p ∈ ps, 1 ≤ p.length ∧ p.length ≤ 40 ∧ ∀ w ∈ p, OkN w) : OkT ⟨ps, []⟩ := by
  refine ⟨⟨fun p hp => ⟨(h p hp).1, (h p hp).2.1⟩, fun p hp w hw => ((h p hp).2.2 w hw).1⟩, hn, by simp, fun p hp => by simp at hp, fun p hp => by simp at hp, ?_⟩
  simp only [List.length_nil]
  refine refs_flat_nil ?_
  rw [List.any_eq_false]
  intro p hp
  unfold hasNote
  rw [List.any_eq_true]
  rintro ⟨w, hw, hd⟩
  simp only [decide_eq_true_eq] at hd
  exact hd ((h p hp).2.2 w hw).2
theorem TXs.mono {W : World} {B B' : Nat} {v v' : Value} {pg pn : List Pq} (h : TXs W B v pg v' pn) (hb : B' ≤ B) : TXs W B' v pg v' pn :=
  ⟨⟨h.1.1.base hb, fun p hp => ⟨(h.1.2 p hp).1, Nat.le_trans hb (h.1.2 p hp).2.1, (h.1.2 p hp).2.2⟩⟩, ⟨h.2.1.1.base hb, fun p hp => ⟨(h.2.1.2 p hp).1, Nat.le_trans hb (h.2.1.2 p hp).2.1, (h.2.1.2 p hp).2.2⟩⟩, h.2.2⟩
theorem TS.end {w W : World} {vp vn : Value} {pg pn : List Pq} (h : TS w W vp pg vn pn) (a b : Value) : TXs ((W.setCell ⟨w.heap.size, 0, none⟩ a).setCell ⟨w.heap.size, 1, none⟩ b) w.heap.size vp pg vn pn ∧ Ext w ((W.setCell ⟨w.heap.size, 0, none⟩ a).setCell ⟨w.heap.size, 1, none⟩ b) :=
  ⟨(h.1.keep (fun k h1 _ => (heap_set_other _ _ _ _ (by simp only; omega)).trans (heap_set_other _ _ _ _ (by simp only; omega)))).mono (by omega), (h.2.2.2.setCell (p := ⟨w.heap.size, 0, none⟩) (Nat.le_refl _) _).setCell (p := ⟨w.heap.size, 1, none⟩) (Nat.le_refl _) _⟩
theorem TS.d0 {w W : World} {vp vn : Value} {pg pn : List Pq} (h : TS w W vp pg vn pn) : W.cell? ⟨w.heap.size, 0, none⟩ = some (.slice none 0 0) ∧ W.cell? ⟨w.heap.size, 1, none⟩ = some (.slice none 0 0) := by
  constructor <;> (rw [cell_of_row W _ _ _ 53 (0, 0) h.2.2.1]; rfl)
def T1Rel (w : World) (n : Nat) (s5 : Value) (W : World) : Prop := ∃ (i : Nat) (A : Option Addr) (c : Nat) (pg : List Pq), i ≤ n ∧ s5 = .int .i64 i ∧ pg.length = i ∧ (∀ p ∈ pg, 1 ≤ p.l.length ∧ p.l.length ≤ 40 ∧ ∀ v ∈ p.l, OkN v) ∧ TS w W (.slice A pg.length c) pg (.slice none 0 0) []
def T2Rel (w : World) (n : Nat) (s6 : Value) (W : World) : Prop := ∃ (i : Nat) (A : Option Addr) (c : Nat) (pg : List Pq) (B : Option Addr) (d : Nat) (pn : List Pq), i ≤ n ∧ s6 = .int .i64 i ∧ OkT ⟨pg.map Pq.l, pn.map Pq.l⟩ ∧ pn.length ≤ i ∧ TS w W (.slice A pg.length c) pg (.slice B pn.length d) pn
def T3Rel (w : World) (m : Nat) (vp : Value) (vn : Value) (pn : List Pq) (s8 : Value) (W : World) : Prop := ∃ (p : Nat) (pg : List Pq), p ≤ m ∧ s8 = .int .i64 p ∧ pg.length = m ∧ OkT ⟨pg.map Pq.l, pn.map Pq.l⟩ ∧ TS w W vp pg vn pn
/-- A text of 1 to 4 paragraphs and at most 3 notes, all in blocks of their own. -/
def GTextPost (w : World) (e : Ending) (w' : World) : Prop := ∃ (A : Option Addr) (c : Nat) (pg : List Pq) (B : Option Addr) (d : Nat) (pn : List Pq), e = .returned (.agg #[.slice A pg.length c, .slice B pn.length d]) ∧ OkT ⟨pg.map Pq.l, pn.map Pq.l⟩ ∧ TXs w' w.heap.size (.slice A pg.length c) pg (.slice B pn.length d) pn ∧ Ext w w'
theorem GpPost.at {w W : World} {m : Nat} {e : Ending} (hm : m ≤ 1000) (h : GpPost w m e W) : ∃ p : Pq, e = .returned (.slice (some ⟨p.g, 0, none⟩) p.l.length p.c) ∧ w.heap.size ≤ p.g ∧ WRow W p.g p.l ∧ 1 ≤ p.l.length ∧ p.l.length ≤ 1000 ∧ (p.l.length ≤ p.c ∧ ∀ v ∈ p.l, OkW v) ∧ (p.l.length ≤ m ∧ ∀ v ∈ p.l, OkN v) ∧ Ext w W := by
  obtain ⟨A, c, l, rfl, ho, h1, h2, h3, hx⟩ := h
  obtain ⟨g, rfl, hg, _, hr⟩ := WRow.own ho h1
  obtain ⟨A', c', e, hc, _⟩ := OL.form wcf_len ho
  simp only [Value.slice.injEq] at e
  exact ⟨⟨g, c, l⟩, rfl, hg, hr, h1, Nat.le_trans h2 hm, ⟨by rw [e.2.2]; exact hc, fun v hv => (h3 v hv).1⟩, ⟨h2, h3⟩, hx⟩
set_option maxHeartbeats 4000000 in
set_option maxRecDepth 100000 in
theorem gtext_any (A : Option Addr) (c : Nat) (l : List Int) (w : World) (hb : ∀ n ∈ l, -9223372036854775808 ≤ n ∧ n ≤ 9223372036854775807) (h : SL icf 1 w A l.length l) :
    Calls Tryz.prog 36 #[.slice A l.length c] w (GTextPost w) := by
  obtain ⟨m, hm⟩ : ∃ m, m = l.length := ⟨_, rfl⟩
  have HP := Lib.hid (fun W (hW : Ext w W) (i k : Nat) (ii mm : Int) h1 h2 h3 h4 => (show Calls Tryz.prog 77 #[.slice A m c, .int .i64 ii, .int .i64 mm] W (fun e w' => e = .returned (.int .i64 (pkI l i k)) ∧ W = w') from by rw [hm]; exact pick_fix A c l i k W ii mm h1 h2 h3 h4 hb (h.ext hW)))
  rw [← hm]
  clear hm hb h
  obtain ⟨k0, hk0, hk04⟩ := pk_nat l 0 4 (by omega)
  obtain ⟨k1, hk1, hk14⟩ := pk_nat l 1 4 (by omega)
  have H0 := Lib.hid (fun W hW => (show Calls Tryz.prog 77 #[.slice A m c, .int .i64 0, .int .i64 4] W (fun e w' => e = .returned (.int .i64 (k0 : Int)) ∧ W = w') from by rw [← hk0]; exact HP.out W hW 0 4 0 4 rfl rfl (by omega) (by omega)))
  have H1 := Lib.hid (fun W hW => (show Calls Tryz.prog 77 #[.slice A m c, .int .i64 1, .int .i64 4] W (fun e w' => e = .returned (.int .i64 (k1 : Int)) ∧ W = w') from by rw [← hk1]; exact HP.out W hW 1 4 1 4 rfl rfl (by omega) (by omega)))
  clear hk0 hk1
  go_enter Tryz.func36, Tryz.ntmps36
  go_upto_region 2 with (fail)
  have h2 : TS w ((w.alloc (.cells #[.slice none 0 0, .slice none 0 0] 53)).alloc (.cells #[.slice none 0 0, .slice none 0 0] 53)) (.slice none 0 0) [] (.slice none 0 0) [] := by
    refine ⟨TXs.nil _ _, ?_, ?_, ((Ext.refl w).alloc _).alloc _⟩
    · have := heap_alloc_new (w.alloc (.cells #[.slice none 0 0, .slice none 0 0] 53)) (.cells #[.slice none 0 0, .slice none 0 0] 53)
      rwa [World.size_alloc] at this
    · rw [Below.heap_alloc _ _ _ (by simp)]
      exact heap_alloc_new _ _
  generalize (w.alloc (.cells #[.slice none 0 0, .slice none 0 0] 53)).alloc (.cells #[.slice none 0 0, .slice none 0 0] 53) = w2 at *
  have HS2 := Lib.hid h2
  clear h2
  go_upto_region 4 with (first | (go_at_call 77; refine (H1.out _ HS2.out.2.2.2).mono ?_; rintro e w1 ⟨rfl, rfl⟩))
  go_loopw [5] (fun s5 W => T1Rel w (k0 + 1) s5 W) (fun s5 _ => toM 10 s5)
  case atStart => exact ⟨0, none, 0, [], by omega, rfl, rfl, fun p hp => by simp at hp, HS2.out⟩
  case round =>
    obtain ⟨i, A1, c1, pg, hi, rfl, hpl, hpk, hts⟩ := hrel
    have HPK := Lib.hid hpk
    clear hpk
    have HT := Lib.hid hts
    have HPL := Lib.hid hpl
    have hpl5 : pg.length ≤ 4 := by omega
    clear hts hpl
    by_cases hik : i ≤ k0
    · have hikI : (i : Int) ≤ (k0 : Int) := by omega
      go_upto_region 6 with (first | (go_at_call 77; refine (H0.out _ HT.out.2.2.2).mono ?_; rintro e w1 ⟨rfl, rfl⟩))
      obtain ⟨q, hq, hq2⟩ := pk_nat l (2 + i) 1000000 (by omega)
      have H2 := Lib.hid (fun W hW => (show Calls Tryz.prog 77 #[.slice A m c, .int .i64 (IntKind.i64.wrap (2 + (i : Int))), .int .i64 1000000] W (fun e w' => e = .returned (.int .i64 (q : Int)) ∧ W = w') from by rw [← hq]; exact HP.out W hW (2 + i) 1000000 _ _ (by rw [IntWalk.i64_in _ (by omega)]; omega) rfl (by omega) (by omega)))
      have HG := Lib.hid (fun W => (show Calls Tryz.prog 78 #[.int .i64 (q : Int), .int .i64 40] W (GpPost W 40) from gpart_any q 40 W (by omega) (by omega) (by omega)))
      clear hq hq2
      have c0 := HT.out.c0
      have hsz := HT.out.size
      go_region_law (first
        | (go_simp; go_at_call 77; refine (H2.out _ HT.out.2.2.2.drew).mono ?_; rintro e w1 ⟨rfl, rfl⟩; simp only [])
        | (go_simp; go_at_call 78; refine (HG.out _).mono ?_; rintro e w1 hpo; obtain ⟨p, rfl, hg, hr, p1, p2, p3, p4, hx⟩ := hpo.at (by omega); have HP4 := Lib.hid p4; have HP1 := Lib.hid p1; obtain ⟨A5, c5, w5, hrun, ⟨hc5, hf5⟩, hts5⟩ := HT.out.app0 p w1.heap.size (((Ext.refl _).drew).trans hx) hg hr p1 p2 p3 rfl (by omega); have c01 := (HT.out.ext (((Ext.refl _).drew).trans hx)).c0; have c02 := (HT.out.ext ((((Ext.refl _).drew).trans hx).alloc (.cells #[.slice (some ⟨p.g, 0, none⟩) p.l.length p.c] 54))).c0; have HT5 := Lib.hid hts5; have HRUN := Lib.hid hrun; clear hg hr p1 p2 p3 p4 hx hts5 hrun; simp only [])
        | (refine gstep_append_run (s := .tmp 18) (x := .tmp 24) HRUN.out rfl rfl rfl rfl rfl ?_))
      all_goals
        go_wp2
        refine ⟨⟨i + 1, A5, c5, pg ++ [p], by omega, by simp, by rw [List.length_append, HPL.out]; rfl, fun y hy => (by rcases List.mem_append.1 hy with h | h; exact HPK.out y h; simp only [List.mem_singleton] at h; subst h; exact ⟨HP1.out, HP4.out⟩), by rw [List.length_append]; exact HT5.out⟩, by simp only [toM]; omega⟩
    · have hikI : ¬ (i : Int) ≤ (k0 : Int) := by omega
      have hp1 : 1 ≤ pg.length := by have := HPL.out; omega
      have HOK := Lib.hid (show OkT ⟨pg.map Pq.l, []⟩ from okT_start (by simp; omega) fun y hy => by
        obtain ⟨z, hz, rfl⟩ := List.mem_map.1 hy
        exact HPK.out z hz)
      go_upto_region 8 with (first | (go_at_call 77; refine (H0.out _ HT.out.2.2.2).mono ?_; rintro e w1 ⟨rfl, rfl⟩))
      go_loopw [6] (fun s6 W => T2Rel w k1 s6 W) (fun s6 _ => toM 10 s6)
      case atStart => exact ⟨0, A1, c1, pg, none, 0, [], by omega, rfl, HOK.out, by simp, HT.out⟩
      case round =>
        clear HPL HT hp1 hpl5 hi hikI hik HS2 HPK HOK
        obtain ⟨i2, A2, c2, pg2, B2, d2, pn2, hi2, rfl, hok2, hpn, hts⟩ := hrel
        have hp1 : 1 ≤ pg2.length := by have := hok2.np.1; simpa using this
        have hp4 : pg2.length ≤ 4 := by have := hok2.np.2; simpa using this
        have HOK := Lib.hid hok2
        clear hok2
        have HT := Lib.hid hts
        clear hts
        by_cases hik : i2 < k1
        · have hikI : (i2 : Int) < (k1 : Int) := by omega
          obtain ⟨q, hq, hq2⟩ := pk_nat l (6 + i2) 1000000 (by omega)
          have H6 := Lib.hid (fun W hW => (show Calls Tryz.prog 77 #[.slice A m c, .int .i64 (6 + (i2 : Int)), .int .i64 1000000] W (fun e w' => e = .returned (.int .i64 (q : Int)) ∧ W = w') from by rw [← hq]; exact HP.out W hW (6 + i2) 1000000 _ _ (by omega) rfl (by omega) (by omega)))
          have HG := Lib.hid (fun W => (show Calls Tryz.prog 78 #[.int .i64 (q : Int), .int .i64 12] W (GpPost W 12) from gpart_any q 12 W (by omega) (by omega) (by omega)))
          clear hq
          go_upto_region 12 with (first | (go_at_call 77; refine (H6.out _ HT.out.2.2.2).mono ?_; rintro e w1 ⟨rfl, rfl⟩))
          obtain ⟨m2, hm2⟩ : ∃ m, m = pg2.length := ⟨_, rfl⟩
          rw [← hm2] at HT hp1 hp4
          have HM2 := Lib.hid hm2
          clear hm2
          go_loopw [8] (fun s8 W => T3Rel w m2 (.slice A2 m2 c2) (.slice B2 pn2.length d2) pn2 s8 W) (fun s8 _ => toM 10 s8)
          case atStart => exact ⟨0, pg2, by omega, rfl, HM2.out.symm, HOK.out, HT.out⟩
          case round =>
            clear HT HM2 HOK
            obtain ⟨p, pg3, hpm, rfl, hl3, hok3, hts⟩ := hrel
            have HOK := Lib.hid hok3
            clear hok3
            have HT := Lib.hid hts
            have HL3 := Lib.hid hl3
            clear hts hl3
            have c0 := HT.out.c0
            have c1 := HT.out.c1
            by_cases hpp : p < m2
            · have hppI : (p : Int) < (m2 : Int) := by omega
              have gd : decide ((p : Int) < (m2 : Int)) = true := by rw [decide_eq_true_eq]; omega
              obtain ⟨hb, cap, pp, hv1, hob, hpi, hok, hc⟩ := HT.out.1.1.at (i := p) (by rw [HL3.out]; exact hpp)
              simp only [Value.slice.injEq] at hv1
              obtain ⟨rfl, e7, rfl⟩ := hv1
              clear e7
              obtain ⟨b1, hb1⟩ : ∃ b1, ((pg3.map Pq.l).drop (p + 1)).any hasNote = b1 := ⟨_, rfl⟩
              have HLA := Lib.hid (fun W (hW : Ext wr W) => (show Calls Tryz.prog 80 #[.slice (some ⟨hb, 0, none⟩) m2 c2, .int .i64 (p : Int)] W (BoolIs b1 W) from by
                rw [← hb1]
                have h9 := HT.out.ext hW
                obtain ⟨A9, c9, e9, _, hs9⟩ := OL.form slc_len h9.1.1.1
                simp only [Value.slice.injEq] at e9
                obtain ⟨rfl, e9, rfl⟩ := e9
                have := last_any W (some ⟨hb, 0, none⟩) c2 (pg3.map Pq.sl) (pg3.map Pq.l) p hs9 h9.1.1.rows (by rw [← e9]; omega) (by omega)
                rwa [← e9] at this))
              have HRF := Lib.hid (fun W (hW : Ext wr W) (hh : W.cell? ⟨hb, p, none⟩ = some (.slice (some ⟨pp.g, 0, none⟩) pp.l.length pp.c)) (note : Int) (later : Bool) => refer_at w W (.slice (some ⟨hb, 0, none⟩) m2 c2) (.slice (B2) pn2.length d2) pg3 pn2 (HT.out.ext hW) p hb pp hpi rfl hh q (by omega) note later)
              rw [HL3.out] at HRF
              have HPI := Lib.hid hpi
              have HB1 := Lib.hid hb1
              clear hpi hok hob hb1
              go_upto_region 12 with (fail)
              go_region_held3 (fun W => W.cell? ⟨w.heap.size + 1, 0, none⟩ = some (.slice (some ⟨hb, 0, none⟩) m2 c2) ∧ W.cell? ⟨w.heap.size + 1, 1, none⟩ = some (.slice B2 pn2.length d2) ∧ W.cell? ⟨hb, p, none⟩ = some (.slice (some ⟨pp.g, 0, none⟩) pp.l.length pp.c)) (first | assumption | go_keep) (first
                | (go_at_call 80; refine (HLA.out _ (Ext.refl _).drew).mono ?_; rintro e wn ⟨rfl, rfl⟩)
                | (go_at_call 79; refine (HRF.out _ (Ext.refl _).drew hc _ _).mono ?_; rintro e wn ⟨b, pg4, rfl, hS, hl4, hts4, hbf, hbt⟩; have HT4 := Lib.hid hts4; have HL4 := Lib.hid hl4; have HBF := Lib.hid hbf; have HBT := Lib.hid hbt; clear hts4 hl4 hbf hbt))
              clear HT HL3 HLA HRF hc c0 c1
              obtain ⟨s0, s1, s2⟩ := hS
              cases b with
              | false =>
                go_wp2
                exact ⟨⟨p + 1, pg4, by omega, rfl, HL4.out, by rw [HBF.out rfl]; exact HOK.out, HT4.out⟩, by simp only [toM]; omega⟩
              | true =>
                go_upto_region 15 with (fail)
                go_region_law (first
                  | (go_simp; go_at_call 78; refine (HG.out _).mono ?_; rintro e w1 hpo; obtain ⟨p9, rfl, hg, hr, p1, p2, p3, p4, hx⟩ := hpo.at (by omega); have HP4 := Lib.hid p4; have HP1 := Lib.hid p1; obtain ⟨A5, c5, w5, hrun, ⟨hc5, hf5⟩, hts5⟩ := HT4.out.app1 p9 w1.heap.size (((Ext.refl _).drew).trans hx) hg hr p1 p2 p3 rfl (by omega); have c01 := (HT4.out.ext (((Ext.refl _).drew).trans hx)).c1; have c02 := (HT4.out.ext ((((Ext.refl _).drew).trans hx).alloc (.cells #[.slice (some ⟨p9.g, 0, none⟩) p9.l.length p9.c] 54))).c1; have HT5 := Lib.hid hts5; have HRUN := Lib.hid hrun; clear hg hr p1 p2 p3 p4 hx hts5 hrun hpo; simp only [])
                  | (refine gstep_append_run (s := .tmp 67) (x := .tmp 70) HRUN.out rfl rfl rfl rfl rfl ?_))
                all_goals
                  go_wp2
                  refine ⟨⟨i2 + 1, some ⟨hb, 0, none⟩, c2, pg4, A5, c5, pn2 ++ [p9], by omega, rfl, ?_, by rw [List.length_append]; simp; omega, by rw [HL4.out, List.length_append]; exact HT5.out⟩, by simp only [toM]; omega⟩
                  obtain ⟨hbf, hfl, v, hv, hmp⟩ := HBT.out rfl
                  rw [hmp, List.map_append]
                  exact okT_refer HOK.out (by rw [List.getElem?_map, HPI.out]; rfl) (HB1.out.trans hbf) hfl (by simp; exact IntWalk.i64_in _ (by omega)) hv HP1.out HP4.out.1 HP4.out.2 (by simp; omega)
            · have hppI : ¬ (p : Int) < (m2 : Int) := by omega
              have gd : decide ((p : Int) < (m2 : Int)) = false := by rw [decide_eq_false_iff_not]; omega
              go_upto_region 12 with (fail)
              go_quiet (fail)
              go_wp2
              exact ⟨⟨i2 + 1, A2, c2, pg3, B2, d2, pn2, by omega, rfl, HOK.out, by omega, by rw [HL3.out]; exact HT.out.ext ((Ext.refl _).drewN _)⟩, by simp only [toM]; omega⟩
        · have hikI : ¬ (i2 : Int) < (k1 : Int) := by omega
          obtain ⟨d0, d1⟩ := HT.out.d0
          have g0 := HT.out.g0 0
          have g1 := HT.out.g0 1
          have c0 := HT.out.c0
          have c1 := HT.out.c1
          have HE := Lib.hid (HT.out.end (.slice A2 pg2.length c2) (.slice B2 pn2.length d2))
          go_wp2
          refine bodyPost_ret (v := .agg #[.slice A2 pg2.length c2, .slice B2 pn2.length d2]) (by simp [results, Tryz.results36, go_sem, *]) rfl ?_
          exact ⟨A2, c2, pg2, B2, d2, pn2, rfl, HOK.out, HE.out.1, HE.out.2⟩
end Go.Proofs.YtdbnddmncbjobaaGreatDoor

/- How words, texts, lines, pages, sections and books lie in memory. -/
namespace Go.Proofs.YtdbnddmncbjobaaGreatDoor
open Go Go.RowKit

def kWd : Lay Wd := (kStr.pair (kStr.pair (kInt.pair kInt))).via fun w => (w.s, w.key, w.tb, w.nt)
def kWs : Lay (List Wd) := kWd.list
def kPs : Lay (List (List Wd)) := kWs.list
def kTx : Lay Tx := (kPs.pair kPs).via fun t => (t.paras, t.notes)
def kIs : Lay (List Int) := kInt.list
def kLn : Lay Ln := (kInt.pair (kInt.pair (kIs.pair kIs))).via fun l => (l.fr, l.un, l.gaps, l.nts)
def kLs : Lay (List Ln) := kLn.list
def kPg : Lay Pg := (kInt.pair (kInt.pair (kInt.pair (kInt.pair (kLs.pair kLs))))).via fun p => (p.num, p.suf, p.ent, p.ver, p.body, p.nts)
def kTs : Lay (List Tx) := kTx.list
def kSe : Lay Se := (kInt.pair (kBool.pair (kIs.pair kTs))).via fun s => (s.ent, s.fz, s.vers, s.texts)
theorem kWd_sz : kWd.sz = 4 := rfl
theorem kWs_sz : kWs.sz = 1 := rfl
theorem kTx_sz : kTx.sz = 2 := rfl
theorem kLn_sz : kLn.sz = 4 := rfl
theorem kPg_sz : kPg.sz = 6 := rfl
theorem kSe_sz : kSe.sz = 4 := rfl
theorem kWd_rep {W : World} {P : Nat → Prop} {w : Wd} {cs : List Value} : kWd.rep W P w cs ↔ cs = [.string ⟨w.s.toArray⟩, .string ⟨w.key.toArray⟩, .int .i64 w.tb, .int .i64 w.nt] := by
  constructor
  · rintro ⟨_, _, rfl, rfl, _, _, rfl, rfl, _, _, rfl, rfl, rfl⟩; rfl
  · rintro rfl; exact ⟨_, _, rfl, rfl, _, _, rfl, rfl, _, _, rfl, rfl, rfl⟩
theorem kTx_rep {W : World} {P : Nat → Prop} {t : Tx} {cs : List Value} : kTx.rep W P t cs ↔ ∃ A n c A' n' c', cs = [.slice A n c, .slice A' n' c'] ∧ n ≤ c ∧ n' ≤ c' ∧ kWs.row W P A n t.paras ∧ kWs.row W P A' n' t.notes := by
  constructor
  · rintro ⟨_, _, rfl, ⟨A, n, c, rfl, h1, h2⟩, ⟨A', n', c', rfl, h3, h4⟩⟩; exact ⟨A, n, c, A', n', c', rfl, h1, h3, h2, h4⟩
  · rintro ⟨A, n, c, A', n', c', rfl, h1, h3, h2, h4⟩; exact ⟨_, _, rfl, ⟨A, n, c, rfl, h1, h2⟩, ⟨A', n', c', rfl, h3, h4⟩⟩
theorem kLn_rep {W : World} {P : Nat → Prop} {l : Ln} {cs : List Value} : kLn.rep W P l cs ↔ ∃ A n c A' n' c', cs = [.int .i64 l.fr, .int .i64 l.un, .slice A n c, .slice A' n' c'] ∧ n ≤ c ∧ n' ≤ c' ∧ kInt.row W P A n l.gaps ∧ kInt.row W P A' n' l.nts := by
  constructor
  · rintro ⟨_, _, rfl, rfl, _, _, rfl, rfl, _, _, rfl, ⟨A, n, c, rfl, h1, h2⟩, ⟨A', n', c', rfl, h3, h4⟩⟩; exact ⟨A, n, c, A', n', c', rfl, h1, h3, h2, h4⟩
  · rintro ⟨A, n, c, A', n', c', rfl, h1, h3, h2, h4⟩; exact ⟨_, _, rfl, rfl, _, _, rfl, rfl, _, _, rfl, ⟨A, n, c, rfl, h1, h2⟩, ⟨A', n', c', rfl, h3, h4⟩⟩
theorem kPg_rep {W : World} {P : Nat → Prop} {p : Pg} {cs : List Value} : kPg.rep W P p cs ↔ ∃ A n c A' n' c', cs = [.int .i64 p.num, .int .i64 p.suf, .int .i64 p.ent, .int .i64 p.ver, .slice A n c, .slice A' n' c'] ∧ n ≤ c ∧ n' ≤ c' ∧ kLn.row W P A n p.body ∧ kLn.row W P A' n' p.nts := by
  constructor
  · rintro ⟨_, _, rfl, rfl, _, _, rfl, rfl, _, _, rfl, rfl, _, _, rfl, rfl, _, _, rfl, ⟨A, n, c, rfl, h1, h2⟩, ⟨A', n', c', rfl, h3, h4⟩⟩; exact ⟨A, n, c, A', n', c', rfl, h1, h3, h2, h4⟩
  · rintro ⟨A, n, c, A', n', c', rfl, h1, h3, h2, h4⟩; exact ⟨_, _, rfl, rfl, _, _, rfl, rfl, _, _, rfl, rfl, _, _, rfl, rfl, _, _, rfl, ⟨A, n, c, rfl, h1, h2⟩, ⟨A', n', c', rfl, h3, h4⟩⟩
theorem kSe_rep {W : World} {P : Nat → Prop} {s : Se} {cs : List Value} : kSe.rep W P s cs ↔ ∃ A n c A' n' c', cs = [.int .i64 s.ent, .bool s.fz, .slice A n c, .slice A' n' c'] ∧ n ≤ c ∧ n' ≤ c' ∧ kInt.row W P A n s.vers ∧ kTx.row W P A' n' s.texts := by
  constructor
  · rintro ⟨_, _, rfl, rfl, _, _, rfl, rfl, _, _, rfl, ⟨A, n, c, rfl, h1, h2⟩, ⟨A', n', c', rfl, h3, h4⟩⟩; exact ⟨A, n, c, A', n', c', rfl, h1, h3, h2, h4⟩
  · rintro ⟨A, n, c, A', n', c', rfl, h1, h3, h2, h4⟩; exact ⟨_, _, rfl, rfl, _, _, rfl, rfl, _, _, rfl, ⟨A, n, c, rfl, h1, h2⟩, ⟨A', n', c', rfl, h3, h4⟩⟩
theorem kWs_rep {W : World} {P : Nat → Prop} {p : List Wd} {cs : List Value} : kWs.rep W P p cs ↔ ∃ A c, cs = [.slice A p.length c] ∧ p.length ≤ c ∧ kWd.row W P A p.length p := by
  constructor
  · rintro ⟨A, n, c, rfl, h1, h2⟩; have e := Lay.row_len h2; subst e; exact ⟨A, c, rfl, h1, h2⟩
  · rintro ⟨A, c, rfl, h1, h2⟩; exact ⟨A, _, c, rfl, h1, h2⟩
end Go.Proofs.YtdbnddmncbjobaaGreatDoor
