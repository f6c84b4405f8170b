/- What the listed variables give: the table of powers of ten and the two sentinels, in every later world; a world that meets the list. -/
import Derived.Test.YtdbnddmncbjobaaGreatDoorRows
import Derived.Test.YtdbnddmncbjobaaGreatDoorQad
import Derived.Test.YtdbnddmncbjobaaGreatDoorQae
import Derived.LaidMore
import Derived.MakeChecks
import Derived.Stop.LaidErr
import Derived.Stop.Joined
import Derived.Lib.LaidTab
import Derived.ProofKit
import Derived.Deep.DeepHandedRow
import Derived.Deep.DeepWitnessRowRef
import Derived.Lib.AppendZeros
namespace Go.Proofs.YtdbnddmncbjobaaGreatDoor
section
open Go Go.RowKit

theorem gSyn : Tryz.prog.globalNamed "strconv.ErrSyntax" = some 1 := by kernel_rfl
theorem gRng : Tryz.prog.globalNamed "strconv.ErrRange" = some 2 := by kernel_rfl
theorem gTab : Tryz.prog.globalNamed "internal/strconv.uint64pow10" = some 3 := by kernel_rfl
theorem gWid : Tryz.prog.globalNamed "rollbook/glyph.widths" = some 4 := by kernel_rfl
theorem gSynT : (Tryz.prog.globals[1]?).map (·.type) = some 150 := by kernel_rfl
theorem gRngT : (Tryz.prog.globals[2]?).map (·.type) = some 150 := by kernel_rfl
theorem starErr : "*" ++ "errors.errorString" = "*errors.errorString" := by decide
theorem rowErr (u : TypeId) (h : Tryz.prog.typeName? 3 u = some "*errors.errorString") : u = 263 :=
  typeName_ptr_named (nm := "errors.errorString") (by rw [starErr]; kernel_rfl) (by kernel_rfl) (by decide) u (by rw [starErr]; exact h)
theorem cells265 : Tryz.prog.cellsOf 265 = 1 := by kernel_rfl
theorem cellsStr : Tryz.prog.cellsOf 9 = 1 := by kernel_rfl
/-- The list that all rows of this claim bear. -/
def theList : List (String × DataW Unit) := [("math/bits.deBruijn32tab", Rows.laid_math_bits_deBruijn32tab), ("math/bits.deBruijn64tab", Rows.laid_math_bits_deBruijn64tab), ("internal/strconv.uint64pow10", Rows.laid_internal_strconv_uint64pow10), ("strconv.ErrRange", Rows.laid_strconv_ErrRange), ("strconv.ErrSyntax", Rows.laid_strconv_ErrSyntax), ("rollbook/glyph.widths", Rows.laid_rollbook_glyph_widths)]
theorem var_later {W W' : World} {n : String} {g : Nat} {cs : Array Value} (hg : Tryz.prog.globalNamed n = some g) (hv : W.var? Tryz.prog n = some cs) (hne : 0 < cs.size) (hx : Ext W W') : W'.var? Tryz.prog n = some cs := by
  have h0 := World.var?_cell hg hv 0
  rw [Array.getElem?_eq_getElem hne] at h0
  exact var?_below hx hg (World.block_lt_of_cell? _ _ h0) hv
theorem env_of_laid {W : World} (h : laidMetH Tryz.prog theList W) : Env W := by
  rw [MakeChecks.laidMetH_plain _ _ _ (by kernel_rfl)] at h
  have h3 := h.tail.tail
  have h4 := h3.tail
  have h5 := h4.tail
  refine ⟨fun W' hx => ?_, ?_, ?_⟩
  · have ht : Lib.TabIs Tryz.prog W "internal/strconv.uint64pow10" .u64 Lib.pow10Tab := Lib.tabIs_of_head gTab (by kernel_rfl) Tryz.underlying267 Tryz.underlying214 (by kernel_rfl) (by kernel_rfl) h3
    unfold Lib.TabIs at ht ⊢
    exact var_later gTab ht (by decide) hx
  · obtain ⟨a0, s0, hv0, _⟩ := laid_sentinel h5 gSyn gSynT Tryz.underlying150 rowErr Tryz.underlying263 Tryz.underlying265 rfl rfl Tryz.underlying9 cells265 cellsStr
    exact ⟨263, _, fun W' hx => var_later gSyn hv0 (by simp) hx⟩
  · obtain ⟨a0, s0, hv0, _⟩ := laid_sentinel h4 gRng gRngT Tryz.underlying150 rowErr Tryz.underlying263 Tryz.underlying265 rfl rfl Tryz.underlying9 cells265 cellsStr
    exact ⟨263, _, fun W' hx => var_later gRng hv0 (by simp) hx⟩
theorem envw_of_laid {W : World} (h : laidMetH Tryz.prog theList W) : EnvW W := by
  rw [MakeChecks.laidMetH_plain _ _ _ (by kernel_rfl)] at h
  have h6 := h.tail.tail.tail.tail.tail
  intro W' hx
  have ht : Lib.TabIs Tryz.prog W "rollbook/glyph.widths" .u8 (wtab.map fun (i : Nat) => (i : Int)) := Lib.tabIs_of_head gWid (by kernel_rfl) Tryz.underlying278 Tryz.underlying5 (by kernel_rfl) (by kernel_rfl) h6
  unfold Lib.TabIs at ht
  rw [var_later gWid ht (by decide) hx]
  simp [List.map_map, Function.comp_def]
/-- The door's own heap meets the list. -/
theorem door_met (os : Os) (args : Array Value) : laidMetH Tryz.prog theList ((World.doorLaid Tryz.prog 400 os).forCall (fun _ _ => 0) ⟨#[], args, []⟩).memory :=
  laidMetH_of_parts3 (fuel := 8) (laidMet_of_run' 8 (by kernel_rfl) (by kernel_rfl)) (by kernel_rfl) (by kernel_rfl)
end
section

def voc : List (List UInt8) := [[97], [116, 104, 101], [99, 111, 117, 114, 116], [119, 105, 108, 108], [104, 101, 97, 114], [109, 111, 116, 105, 111, 110], [111, 102], [112, 108, 97, 105, 110, 116, 105, 102, 102], [77, 46, 73, 46, 84, 46], [82, 117, 108, 101], [49, 50, 40, 98, 41], [100, 105, 115, 109, 105, 115, 115, 101, 100], [119, 105, 116, 104], [112, 114, 101, 106, 117, 100, 105, 99, 101], [97, 110, 100], [99, 111, 115, 116, 115], [87, 87, 87, 64, 87], [105, 116], [105, 115], [115, 111], [111, 114, 100, 101, 114, 101, 100, 46], [97, 98, 99, 100, 101, 102, 103, 104, 105, 106, 107, 108, 109, 110, 111, 112, 113, 114, 115, 116, 117, 118, 119, 120, 121, 122, 97, 98, 99, 100, 101, 102, 103, 104, 105, 106, 107, 108, 109, 110]]
def vkeys : List (List UInt8) := [[99, 111, 115, 116, 115], [109, 111, 116, 105, 111, 110], [82, 117, 108, 101], [115, 109, 105, 116, 104]]
def hasNote (p : List Wd) : Bool := p.any fun w => decide (w.nt ≠ 0)
/-- Where the words begin behind those that refer to notes. -/
def fromGo : List Wd → Nat → Nat → Nat
  | [], _, f => f
  | w :: r, i, f => fromGo r (i + 1) (if w.nt ≠ 0 then i + 1 else f)
def referG (p : List Wd) (n note : Nat) (later : Bool) : Option (List Wd) :=
  let f := fromGo p 0 0
  if later || decide (p.length ≤ f) then none else some (p.modify (f + n % (p.length - f)) fun w => { w with nt := note })
end
section

/-- A word that may stand in a text. -/
def OkW (w : Wd) : Prop := validW w.s = true ∧ (w.key = [] ∨ validW w.key = true) ∧ (w.tb = 0 ∨ w.tb = 1) ∧ w.s.length ≤ 40 ∧ w.key.length ≤ 40
theorem voc_ok : ∀ s ∈ voc, validW s = true ∧ s.length ≤ 40 := by decide
theorem vkeys_ok : ∀ s ∈ vkeys, validW s = true ∧ s.length ≤ 40 := by decide
/-- The notes to which words refer. -/
def refs (p : List Wd) : List Int := (p.filter fun w => decide (w.nt ≠ 0)).map (·.nt)
def upto (k : Nat) : List Int := (List.range k).map fun (i : Nat) => (i : Int) + 1
theorem refs_append (a b : List Wd) : refs (a ++ b) = refs a ++ refs b := by simp [refs]
theorem refs_nil_of {p : List Wd} (h : hasNote p = false) : refs p = [] := by
  have : p.filter (fun w => decide (w.nt ≠ 0)) = [] := by
    rw [List.filter_eq_nil_iff]
    intro w hw hd
    unfold hasNote at h
    rw [List.any_eq_false] at h
    exact h w hw hd
  unfold refs; rw [this]; rfl
theorem fromGo_spec (p : List Wd) : ∀ (i f : Nat), f ≤ i → f ≤ fromGo p i f ∧ fromGo p i f ≤ i + p.length ∧ refs (p.drop (fromGo p i f - i)) = [] := by
  induction p with
  | nil => intro i f hf; simp only [fromGo]; exact ⟨Nat.le_refl _, by simp; omega, by simp [refs]⟩
  | cons w r ih =>
    intro i f hf
    simp only [fromGo]
    by_cases h : w.nt ≠ 0
    · rw [if_pos h]
      obtain ⟨h1, h2, h3⟩ := ih (i + 1) (i + 1) (Nat.le_refl _)
      refine ⟨by omega, by simp; omega, ?_⟩
      rw [show fromGo r (i + 1) (i + 1) - i = (fromGo r (i + 1) (i + 1) - (i + 1)) + 1 by omega, List.drop_succ_cons]
      exact h3
    · rw [if_neg h]
      obtain ⟨h1, h2, h3⟩ := ih (i + 1) f (by omega)
      refine ⟨h1, by simp; omega, ?_⟩
      by_cases h4 : fromGo r (i + 1) f ≤ i
      · rw [show fromGo r (i + 1) f - i = 0 by omega]
        rw [show fromGo r (i + 1) f - (i + 1) = 0 by omega] at h3
        simp only [List.drop_zero] at h3 ⊢
        unfold refs at h3 ⊢
        rw [List.filter_cons_of_neg (by simpa using h)]
        exact h3
      · rw [show fromGo r (i + 1) f - i = (fromGo r (i + 1) f - (i + 1)) + 1 by omega, List.drop_succ_cons]
        exact h3
theorem referG_ok {p p' : List Wd} {n note : Nat} {later : Bool} (h : referG p n note later = some p') (hn : note ≠ 0) :
    later = false ∧ refs p' = refs p ++ [(note : Int)] ∧ p'.length = p.length ∧ ∀ w ∈ p', ∃ v ∈ p, w = v ∨ w = { v with nt := note } := by
  unfold referG at h
  simp only at h
  obtain ⟨_, h2, h3⟩ := fromGo_spec p 0 0 (Nat.le_refl _)
  generalize fromGo p 0 0 = f at h h2 h3
  split at h
  · cases h
  · next hc =>
    simp only [Bool.or_eq_true, decide_eq_true_eq, not_or, Nat.not_le, Bool.not_eq_true] at hc
    injection h with h
    obtain ⟨i, hi⟩ : ∃ i, i = f + n % (p.length - f) := ⟨_, rfl⟩
    rw [← hi] at h
    have hlt := Nat.mod_lt n (show 0 < p.length - f by omega)
    have hil : i < p.length := by omega
    have e : p = p.take i ++ p[i] :: p.drop (i + 1) := by rw [List.getElem_cons_drop, List.take_append_drop]
    have e' : p' = p.take i ++ { p[i] with nt := (note : Int) } :: p.drop (i + 1) := by
      rw [← h, List.modify_eq_take_cons_drop hil]
    have hd : refs (p.drop i) = [] := by
      have : p.drop i = (p.drop f).drop (i - f) := by rw [List.drop_drop]; congr 1; omega
      rw [this]
      simp only [Nat.sub_zero] at h3
      unfold refs at h3 ⊢
      rw [List.map_eq_nil_iff, List.filter_eq_nil_iff] at h3 ⊢
      exact fun w hw => h3 w (List.mem_of_mem_drop hw)
    have hd2 : refs (p[i] :: p.drop (i + 1)) = [] := by rw [List.getElem_cons_drop]; exact hd
    have hd3 : refs (p.drop (i + 1)) = [] := by
      unfold refs at hd2 ⊢
      rw [List.map_eq_nil_iff, List.filter_eq_nil_iff] at hd2 ⊢
      exact fun w hw => hd2 w (List.mem_cons_of_mem _ hw)
    have hr : refs p = refs (p.take i) := by
      have := congrArg refs e
      rw [refs_append, hd2, List.append_nil] at this
      exact this
    refine ⟨hc.1, ?_, ?_, fun w hw => ?_⟩
    · rw [e', refs_append, hr]
      have h5 : refs ({ p[i] with nt := (note : Int) } :: p.drop (i + 1)) = (note : Int) :: refs (p.drop (i + 1)) := by
        unfold refs
        rw [List.filter_cons_of_pos (by simp; omega)]; rfl
      rw [h5, hd3]
    · rw [← h]; simp
    · rw [e'] at hw
      rcases List.mem_append.1 hw with hw | hw
      · exact ⟨w, List.mem_of_mem_take hw, .inl rfl⟩
      · rcases List.mem_cons.1 hw with hw | hw
        · exact ⟨p[i], List.getElem_mem hil, .inr hw⟩
        · exact ⟨w, List.mem_of_mem_drop hw, .inl rfl⟩
/-- What the paragraphs of a generated text are. -/
structure OkP (ps : List (List Wd)) : Prop where
  len : ∀ p ∈ ps, 1 ≤ p.length ∧ p.length ≤ 40
  ok : ∀ p ∈ ps, ∀ w ∈ p, OkW w
theorem refs_flat_nil {ps : List (List Wd)} (h : ps.any hasNote = false) : refs ps.flatten = [] := by
  induction ps with
  | nil => rfl
  | cons p ps ih =>
    simp only [List.any_cons, Bool.or_eq_false_iff] at h
    rw [List.flatten_cons, refs_append, refs_nil_of h.1, ih h.2]; rfl
/-- A generated text, which has some notes. -/
structure OkT (t : Tx) : Prop where
  par : OkP t.paras
  np : 1 ≤ t.paras.length ∧ t.paras.length ≤ 4
  nn : t.notes.length ≤ 3
  len : ∀ p ∈ t.notes, 1 ≤ p.length ∧ p.length ≤ 12
  ok : ∀ p ∈ t.notes, ∀ w ∈ p, OkW w ∧ w.nt = 0
  rf : refs t.paras.flatten = upto t.notes.length
theorem upto_succ (k : Nat) : upto (k + 1) = upto k ++ [((k + 1 : Nat) : Int)] := by simp [upto, List.range_succ]
/-- The words are found to be right. -/
theorem chkWs_ok (nn : Int) : ∀ (p : List Wd) (k : Nat), (∀ w ∈ p, OkW w) → refs p = (List.range (refs p).length).map (fun (i : Nat) => (k : Int) + i + 1) → (k : Int) + (refs p).length ≤ nn → chkWs true nn p k = .inr ((k + (refs p).length : Nat) : Int) := by
  intro p
  induction p with
  | nil => intro k _ _ _; simp [chkWs, refs]
  | cons w r ih =>
    intro k hok hr hk
    have hw := hok w (by simp)
    have h1 : (!validW w.s || (decide (w.key ≠ []) && !validW w.key)) = false := by
      rw [hw.1]
      rcases hw.2.1 with h | h
      · simp [h]
      · simp [h]
    have h2 : ¬ (w.tb ≠ 0 ∧ w.tb ≠ 1) := by have := hw.2.2.1; omega
    simp only [chkWs]
    rw [if_neg (by rw [h1]; simp), if_neg h2]
    by_cases h3 : w.nt ≠ 0
    · rw [if_pos h3]
      have e : refs (w :: r) = w.nt :: refs r := by unfold refs; rw [List.filter_cons_of_pos (by simpa using h3)]; rfl
      rw [e] at hr hk
      simp only [List.length_cons, List.range_succ_eq_map, List.map_cons, List.map_map, List.cons.injEq] at hr
      have h4 : w.nt = k + 1 := by have := hr.1; simpa using this
      simp only [List.length_cons] at hk
      rw [if_neg (by simp; omega)]
      have := ih (k + 1) (fun x hx => hok x (by simp [hx])) (by
        refine hr.2.trans ?_
        refine List.map_congr_left fun i _ => ?_
        simp only [Function.comp, Nat.succ_eq_add_one]; omega) (by omega)
      rw [show ((k + 1 : Nat) : Int) = (k : Int) + 1 by omega] at this
      rw [this, e]
      simp only [List.length_cons]
      congr 1; omega
    · rw [if_neg h3]
      have e : refs (w :: r) = refs r := by unfold refs; rw [List.filter_cons_of_neg (by simpa using h3)]
      rw [e] at hr hk ⊢
      exact ih k (fun x hx => hok x (by simp [hx])) hr hk
theorem chkWs_note (nn : Int) (k : Int) : ∀ (p : List Wd), (∀ w ∈ p, OkW w ∧ w.nt = 0) → chkWs false nn p k = .inr k := by
  intro p
  induction p with
  | nil => intro _; rfl
  | cons w r ih =>
    intro hok
    have hw := (hok w (by simp)).1
    have h1 : (!validW w.s || (decide (w.key ≠ []) && !validW w.key)) = false := by
      rw [hw.1]
      rcases hw.2.1 with h | h
      · simp [h]
      · simp [h]
    have h2 : ¬ (w.tb ≠ 0 ∧ w.tb ≠ 1) := by have := hw.2.2.1; omega
    simp only [chkWs]
    rw [if_neg (by rw [h1]; simp), if_neg h2, if_neg (by have := (hok w (by simp)).2; omega)]
    exact ih fun x hx => hok x (by simp [hx])
theorem chkPs_notes (nn : Int) (k : Int) : ∀ (ps : List (List Wd)), (∀ p ∈ ps, ∀ w ∈ p, OkW w ∧ w.nt = 0) → chkPs nn 0 ps k = .inr k := by
  intro ps
  induction ps with
  | nil => intro _; rfl
  | cons p ps ih =>
    intro h
    simp only [chkPs]
    rw [show decide (0 < 0) = false by decide, chkWs_note nn k p (h p (by simp))]
    exact ih fun q hq => h q (by simp [hq])
theorem range_split (a b k : Nat) : (List.range (a + b)).map (fun (i : Nat) => (k : Int) + i + 1) = (List.range a).map (fun (i : Nat) => (k : Int) + i + 1) ++ (List.range b).map (fun (i : Nat) => ((k + a : Nat) : Int) + i + 1) := by
  rw [List.range_add, List.map_append, List.map_map]
  congr 1
  refine List.map_congr_left fun i _ => ?_
  simp only [Function.comp]; omega
theorem chkPs_ok (nn : Int) (ns : List (List Wd)) (hns : ∀ p ∈ ns, ∀ w ∈ p, OkW w ∧ w.nt = 0) : ∀ (ps : List (List Wd)) (k : Nat), (∀ p ∈ ps, ∀ w ∈ p, OkW w) →
    refs ps.flatten = (List.range (refs ps.flatten).length).map (fun (i : Nat) => (k : Int) + i + 1) → (k : Int) + (refs ps.flatten).length ≤ nn → chkPs nn ps.length (ps ++ ns) k = .inr ((k + (refs ps.flatten).length : Nat) : Int) := by
  intro ps
  induction ps with
  | nil => intro k _ _ _; simp only [List.nil_append, List.length_nil]; rw [chkPs_notes nn k ns hns]; simp [refs]
  | cons p ps ih =>
    intro k hok hr hk
    rw [List.flatten_cons, refs_append] at hr hk ⊢
    rw [List.length_append] at hr hk ⊢
    rw [range_split] at hr
    have hr := List.append_inj hr (by simp)
    simp only [List.cons_append, chkPs, List.length_cons]
    rw [show decide (0 < ps.length + 1) = true by simp, chkWs_ok nn p k (hok p (by simp)) hr.1 (by omega)]
    simp only [Nat.add_sub_cancel]
    rw [ih (k + (refs p).length) (fun q hq => hok q (by simp [hq])) hr.2 (by omega)]
    congr 1; omega
theorem chkT_ok {t : Tx} (h : OkT t) : chkT t = 0 := by
  unfold chkT
  have hl : ∀ p ∈ t.paras ++ t.notes, 1 ≤ p.length ∧ p.length ≤ 40 := fun p hp => by
    rcases List.mem_append.1 hp with hp | hp
    · exact h.par.len p hp
    · have := h.len p hp; omega
  have h1 : (t.paras ++ t.notes).any (fun p => decide (500 < p.length)) = false := by
    rw [List.any_eq_false]; intro p hp hd; have := hl p hp; simp at hd; omega
  have h2 : (t.paras ++ t.notes).any (fun p => decide (p.length = 0)) = false := by
    rw [List.any_eq_false]; intro p hp hd; have := hl p hp; simp only [decide_eq_true_eq] at hd; omega
  have hp := h.np
  have hn := h.nn
  rw [if_neg (by rw [h1]; simp; omega), if_neg (by rw [h2]; simp)]
  have hlen : (refs t.paras.flatten).length = t.notes.length := by rw [h.rf]; simp [upto]
  have := chkPs_ok t.notes.length t.notes h.ok t.paras 0 h.par.ok (by rw [hlen, h.rf]; simp [upto]) (by rw [hlen]; omega)
  rw [show ((0 : Nat) : Int) = 0 by rfl] at this
  rw [this, hlen]
  simp
end
section
open Go Go.RowKit

def toM (n : Nat) (v : Value) : Nat := match v with | .int _ z => n - z.toNat | _ => 0
theorem list_size (s : ByteArray) : s.data.toList.length = s.size := by simp
theorem get_list (s : ByteArray) (pos : Nat) (h : pos < s.size) : s.data.toList.drop pos = (s[pos]'h) :: s.data.toList.drop (pos + 1) := by
  have h' : pos < s.data.toList.length := by simpa using h
  rw [List.drop_eq_getElem_cons h']
  rfl
def WiRel (S : ByteArray) (w : World) (s3 s11 : Value) (w' : World) : Prop :=
  ∃ (i : Nat) (n : Int), i ≤ S.size ∧ s11 = .int .i64 i ∧ s3 = .int .i64 n ∧ 0 ≤ n ∧ n ≤ 12 * i ∧ widGo S.data.toList 0 = widGo (S.data.toList.drop i) n ∧ w = w'
set_option maxHeartbeats 4000000 in
set_option maxRecDepth 100000 in
theorem width_any (S : ByteArray) (w : World) (hL : EnvW w) : Calls Tryz.prog 219 #[.string S] w (fun e w' => e = .returned (.int .i64 (wid S.data.toList)) ∧ w' = w) := by
  by_cases h1 : 40 < S.size
  · have h1' : (40 : Int) < (S.size : Int) := by omega
    have HE := Lib.hid (show wid S.data.toList = 0 by unfold wid; rw [list_size, if_pos h1])
    go_enter Tryz.func219, Tryz.ntmps219
    go_wp2
    go_ret
    exact ⟨ret_i HE.out.symm, rfl⟩
  have h1' : ¬ (40 : Int) < (S.size : Int) := by omega
  have HE := Lib.hid (show wid S.data.toList = widGo S.data.toList 0 by unfold wid; rw [list_size, if_neg h1])
  have HG := Lib.hid (fun c => gwidth_any c w hL)
  have hsz : S.size ≤ 40 := by omega
  clear hL h1
  go_enter Tryz.func219, Tryz.ntmps219
  go_wp2
  go_loopw [3, 11] (fun s3 s11 w' => WiRel S w s3 s11 w') (fun _ s11 _ => toM S.size s11)
  case atStart => exact ⟨0, 0, by omega, rfl, rfl, by omega, by omega, rfl, rfl⟩
  case round =>
    obtain ⟨i, n, hi, rfl, rfl, hn0, hn1, hr, rfl⟩ := hrel
    have HR := Lib.hid hr
    clear hr
    by_cases hlt : i < S.size
    case neg =>
      obtain rfl : i = S.size := by omega
      have hni : ¬ ((S.size : Int) < (S.size : Int)) := by omega
      have HF := Lib.hid (show wid S.data.toList = n by rw [HE.out, HR.out, List.drop_of_length_le (by rw [list_size]; omega)]; rfl)
      go_wp2
      go_ret
      exact ⟨ret_i HF.out.symm, rfl⟩
    have hI : (i : Int) < (S.size : Int) := by omega
    obtain ⟨c, hc⟩ : ∃ c, c = S[i]'hlt := ⟨_, rfl⟩
    have hgl := get_list S i hlt
    rw [← hc] at hgl
    have HD := Lib.hid hgl
    have HC := Lib.hid hc
    have hb := widB_bd c
    obtain ⟨v, hv⟩ : ∃ v, v = widB c := ⟨_, rfl⟩
    rw [← hv] at hb
    have HV := Lib.hid hv
    have HGC := Lib.hid (show Calls Tryz.prog 239 #[.int .u8 c.toNat] w (fun e w1 => e = .returned (.int .i64 v) ∧ w1 = w) by rw [hv]; exact HG.out c)
    clear hgl hv
    by_cases hz : v = 0
    · have HF := Lib.hid (show wid S.data.toList = 0 by
        rw [HE.out, HR.out, HD.out, widGo, if_pos (by rw [← HV.out]; exact hz)])
      subst hz
      go_wp2_with (first | (go_at_call 239; rw [← HC.out]; refine (HGC.out).mono ?_; rintro e w1 ⟨rfl, rfl⟩))
      go_ret
      exact ⟨ret_i HF.out.symm, rfl⟩
    · go_wp2_with (first | (go_at_call 239; rw [← HC.out]; refine (HGC.out).mono ?_; rintro e w1 ⟨rfl, rfl⟩))
      go_roundw
      case rel =>
        refine ⟨i + 1, n + v, by omega, by simp, rfl, by omega, by omega, ?_, rfl⟩
        rw [HR.out, HD.out, widGo, if_neg (by rw [← HV.out]; exact hz), ← HV.out]
      case measure => simp only [toM]; omega
end
section
open Go Go.RowKit

variable {β : Type}
/-- A new row of its own with the elements xs, what they hold in blocks of P. -/
def NewRow (k : Lay β) (e : TypeId) (P : Nat → Prop) (W : World) (xs : List β) (en : Ending) (W' : World) : Prop := ∃ A c, en = .returned (.slice A xs.length c) ∧ k.own e W' W.heap.size P (.slice A xs.length c) xs ∧ Ext W W'
def Cat1 (m1 m2 : Nat) (s3 s11 : Value) : Prop := (s11 = .int .i64 0 ∧ s3 = .int .i64 0) ∨ (s11 = .int .i64 1 ∧ s3 = .int .i64 m1) ∨ (s11 = .int .i64 2 ∧ s3 = .int .i64 ((m1 : Int) + (m2 : Int)))
def Cat2 (k : Lay β) (e : TypeId) (P : Nat → Prop) (W : World) (m1 m2 : Nat) (xs ys : List β) (s6 s27 : Value) (w' : World) : Prop := Ext W w' ∧ ((s27 = .int .i64 0 ∧ k.own e w' W.heap.size P s6 [] ∧ ∃ A c, s6 = .slice A 0 c) ∨
  (s27 = .int .i64 1 ∧ k.own e w' W.heap.size P s6 xs ∧ ∃ A c, s6 = .slice A m1 c) ∨ (s27 = .int .i64 2 ∧ k.own e w' W.heap.size P s6 (xs ++ ys) ∧ ∃ A c, s6 = .slice A (m1 + m2) c))
def upM (v : Value) : Nat := match v with | .int _ z => 2 - z.toNat | _ => 0
/-- append of a row that lies in memory. -/
theorem own_app {k : Lay β} {Pr : Program} {t e : TypeId} {z : Value} {bytes : Nat} (ht : Pr.underlying t = some (.slice e)) (hinfo : (Pr.info? e).map (fun i => (i.zero, i.size, i.bytes)) = some (some z, k.sz, bytes)) (hzs : z.cells.size = k.sz) (hsz : 0 < k.sz) (hby : bytes ≤ 1000)
    {W X : World} {P : Nat → Prop} {v : Value} {xs ys : List β} (h : k.own e X W.heap.size P v xs) (hx : Ext W X) {A : Option Addr} {m : Nat} (hr : k.row W P A m ys) (c : Nat) (hm : xs.length + m ≤ 100000000) :
    ∃ A' c' w', (Builtin.append_ #[t, t] t #[v, .slice A m c]).run Pr X = .ok (.slice A' (xs.length + m) c') w' ∧ k.own e w' W.heap.size P (.slice A' (xs.length + m) c') (xs ++ ys) ∧ Ext W w' := by
  have hlt := Lay.own_lt h
  obtain ⟨ds, h1, h2, h3, h4, h5⟩ := hr
  obtain ⟨A', c', w', r1, r2, r3, _⟩ := Lay.own_append (e := e) ht hinfo hzs hsz hby h (ds' := ds) (ys := ys) (h3.ext hx) h2
    (fun i d x hd hxx => (k.mono (Q := fun j => P j ∧ v.ownBlock ≠ some j) (h5 i d x hd hxx) fun j hj hl => ⟨hj, fun e => by have := (hlt j e).1; omega⟩) |> fun h => k.ext h hx) c hm hx.lt
  exact ⟨A', c', w', r1, r2, Below.trans hx (r3 _ (Nat.le_refl _))⟩

theorem info54 : (Tryz.prog.info? 54).map (fun i => (i.zero, i.size, i.bytes)) = some (some (Value.slice none 0 0), 1, 24) := by kernel_rfl
set_option maxHeartbeats 2000000 in
set_option maxRecDepth 100000 in
theorem grow125 (k : Lay β) (hk : k.sz = 1) (P : Nat → Prop) (n : Nat) (w : World) (hn : n ≤ 100000) : Calls Tryz.prog 125 #[.slice none 0 0, .int .i64 n] w (NewRow k 54 P w []) := by
  by_cases h0 : n = 0
  · subst h0
    go_enter Tryz.func125, Tryz.ntmps125
    go_wp2
    go_ret
    exact ⟨none, 0, rfl, Lay.own_nil _ _ _ _ _, Ext.refl _⟩
  · obtain ⟨i, hi, hz, hs, hb⟩ := info_parts info54
    have hrun := fun W => Lib.run_append_nil_zeros (P := Tryz.prog) W 51 3 51 54 i _ .i64 .i64 Tryz.underlying51 Tryz.underlying3 hi hz n (by omega) (by omega) (by omega) (by rw [hb]; omega)
    have HRUN := Lib.hid hrun
    have hne : ¬ (n : Int) < 0 := by omega
    have hpo : (0 : Int) < (n : Int) := by omega
    clear hrun hi hs hb
    have hz' : (Value.slice none 0 0).cells.size = 1 := rfl
    go_enter Tryz.func125, Tryz.ntmps125
    go_wp2_with (first | (at_builtin; refine Lib.wpList_append_run _ rfl (.tmp 20) (.tmp 21) 51 3 rfl _ _ rfl rfl _ _ (HRUN.out _) ?_))
    go_ret
    refine ⟨_, _, rfl, ⟨[], ⟨by simp [gcells], .inr ⟨w.heap.size, _, _, rfl, Nat.le_refl _, heap_alloc_new w _, Nat.zero_le _, grownCap_le_maxLen _ _ _ _ (by unfold maxLen; omega), ?_, by simp [gcells]⟩⟩, rfl, fun i d x hd => by simp at hd⟩, ((Ext.refl w).alloc _).drew⟩
    have hg := grownCap_ge w n 0 54
    rw [Array.size_append, size_zeroCells, size_zeroCells, hk]
    simp
    omega
set_option maxHeartbeats 4000000 in
set_option maxRecDepth 100000 in
theorem cat72 (k : Lay β) (hk : k.sz = 1) (P : Nat → Prop) (W : World) (g : Nat) (A1 A2 : Option Addr) (n1 n2 c1 c2 : Nat) (xs ys : List β) (h1 : k.row W P A1 n1 xs) (h2 : k.row W P A2 n2 ys) (hl1 : n1 ≤ 10000) (hl2 : n2 ≤ 10000)
    (hg : g < W.heap.size) (hg0 : W.cell? ⟨g, 0, none⟩ = some (.slice A1 n1 c1)) (hg1 : W.cell? ⟨g, 1, none⟩ = some (.slice A2 n2 c2)) :
    Calls Tryz.prog 72 #[.slice (some ⟨g, 0, none⟩) 2 2] W (NewRow k 54 P W (xs ++ ys)) := by
  have e1 := Lay.row_len h1
  have e2 := Lay.row_len h2
  have H1 := Lib.hid h1
  have H2 := Lib.hid h2
  have HGW := Lib.hid (fun W' => (show Calls Tryz.prog 125 #[.slice none 0 0, .int .i64 ((n1 : Int) + (n2 : Int))] W' (NewRow k 54 P W' []) from by
    have := grow125 k hk P (n1 + n2) W' (by omega)
    rwa [Int.natCast_add] at this))
  have HAP := Lib.hid (fun (X : World) (v : Value) (zs ys : List β) (h : k.own 54 X W.heap.size P v zs) (hx : Ext W X) (A : Option Addr) (m : Nat) (hr : k.row W P A m ys) (c : Nat) (hm : zs.length + m ≤ 100000000) =>
    own_app (Pr := Tryz.prog) (t := 51) (z := Value.slice none 0 0) Tryz.underlying51 (by rw [hk]; exact info54) (by rw [hk]; rfl) (by omega) (by omega) h hx hr c hm)
  clear h1 h2
  have HM1 := Lib.hid e1
  have HM2 := Lib.hid e2
  clear e1 e2
  go_enter Tryz.func72, Tryz.ntmps72
  go_wp2_with fail
  go_loop [3, 11] (fun s3 s11 => Cat1 n1 n2 s3 s11) (fun _ s11 => upM s11)
  case atStart => exact .inl ⟨rfl, rfl⟩
  case round =>
    rcases hrel with ⟨rfl, rfl⟩ | ⟨rfl, rfl⟩ | ⟨rfl, rfl⟩
    · go_wp2_with fail
      exact ⟨.inr (.inl ⟨rfl, rfl⟩), by simp [upM]⟩
    · go_wp2_with fail
      exact ⟨.inr (.inr ⟨rfl, rfl⟩), by simp [upM]⟩
    · go_wp2_with (first | (go_at_call 125; refine (HGW.out _).mono ?_; rintro e w1 ⟨A, c, rfl, ho, hx⟩))
      have HX := Lib.hid hx
      have HO := Lib.hid (show k.own 54 w1 W.heap.size P (.slice A 0 c) [] from ho)
      clear ho hx
      go_loopw [6, 27] (fun s6 s27 w' => Cat2 k 54 P W n1 n2 xs ys s6 s27 w') (fun _ s27 _ => upM s27)
      case atStart => exact ⟨HX.out, .inl ⟨rfl, HO.out, _, _, rfl⟩⟩
      case round =>
        obtain ⟨hxr, hrel⟩ := hrel
        have HXR := Lib.hid hxr
        obtain ⟨q, _⟩ := hxr.cells
        have hq0 := (q g 0 hg).trans hg0
        have hq1 := (q g 1 hg).trans hg1
        clear q hxr
        rcases hrel with ⟨rfl, ho, A', c', rfl⟩ | ⟨rfl, ho, A', c', rfl⟩ | ⟨rfl, ho, A', c', rfl⟩
        · obtain ⟨A3, c3, w3, hrun, ho3, hb3⟩ := HAP.out _ _ _ _ ho HXR.out _ _ H1.out c1 (by simp; omega)
          have HO3 := Lib.hid ho3
          have HB3 := Lib.hid hb3
          clear ho ho3 hb3
          go_wp2_with (first | (at_builtin; refine wpList_append_run (s := .tmp 31) (x := .tmp 32) hrun rfl rfl rfl rfl rfl ?_))
          exact ⟨⟨HB3.out, .inr (.inl ⟨rfl, by simpa using HO3.out, A3, c3, by simp⟩)⟩, by simp [upM]⟩
        · obtain ⟨A3, c3, w3, hrun, ho3, hb3⟩ := HAP.out _ _ _ _ ho HXR.out _ _ H2.out c2 (by have := HM1.out; omega)
          have HO3 := Lib.hid ho3
          have HB3 := Lib.hid hb3
          rw [← HM1.out] at hrun
          clear ho ho3 hb3
          go_wp2_with (first | (at_builtin; refine wpList_append_run (s := .tmp 31) (x := .tmp 32) hrun rfl rfl rfl rfl rfl ?_))
          exact ⟨⟨HB3.out, .inr (.inr ⟨rfl, by have := HO3.out; rw [← HM1.out] at this; exact this, A3, c3, rfl⟩)⟩, by simp [upM]⟩
        · have HO := Lib.hid ho
          clear ho
          go_wp2_with fail
          go_ret
          refine ⟨A', c', ?_, ?_, HXR.out⟩
          · rw [List.length_append, ← HM1.out, ← HM2.out]; rfl
          · rw [List.length_append, ← HM1.out, ← HM2.out]; exact HO.out

theorem info86 : (Tryz.prog.info? 86).map (fun i => (i.zero, i.size, i.bytes)) = some (some (Value.agg #[.int .i64 0, .int .i64 0, .slice none 0 0, .slice none 0 0]), 4, 64) := by kernel_rfl
set_option maxHeartbeats 2000000 in
set_option maxRecDepth 100000 in
theorem grow110 (k : Lay β) (hk : k.sz = 4) (P : Nat → Prop) (n : Nat) (w : World) (hn : n ≤ 100000) : Calls Tryz.prog 110 #[.slice none 0 0, .int .i64 n] w (NewRow k 86 P w []) := by
  by_cases h0 : n = 0
  · subst h0
    go_enter Tryz.func110, Tryz.ntmps110
    go_wp2
    go_ret
    exact ⟨none, 0, rfl, Lay.own_nil _ _ _ _ _, Ext.refl _⟩
  · obtain ⟨i, hi, hz, hs, hb⟩ := info_parts info86
    have hrun := fun W => Lib.run_append_nil_zeros (P := Tryz.prog) W 82 3 82 86 i _ .i64 .i64 Tryz.underlying82 Tryz.underlying3 hi hz n (by omega) (by omega) (by omega) (by rw [hb]; omega)
    have HRUN := Lib.hid hrun
    have hne : ¬ (n : Int) < 0 := by omega
    have hpo : (0 : Int) < (n : Int) := by omega
    clear hrun hi hs hb
    have hz' : (Value.agg #[.int .i64 0, .int .i64 0, .slice none 0 0, .slice none 0 0]).cells.size = 4 := rfl
    go_enter Tryz.func110, Tryz.ntmps110
    go_wp2_with (first | (at_builtin; refine Lib.wpList_append_run _ rfl (.tmp 20) (.tmp 21) 82 3 rfl _ _ rfl rfl _ _ (HRUN.out _) ?_))
    go_ret
    refine ⟨_, _, rfl, ⟨[], ⟨by simp [gcells], .inr ⟨w.heap.size, _, _, rfl, Nat.le_refl _, heap_alloc_new w _, Nat.zero_le _, grownCap_le_maxLen _ _ _ _ (by unfold maxLen; omega), ?_, by simp [gcells]⟩⟩, rfl, fun i d x hd => by simp at hd⟩, ((Ext.refl w).alloc _).drew⟩
    have hg := grownCap_ge w n 0 86
    rw [Array.size_append, size_zeroCells, size_zeroCells, hk]
    simp
    omega
set_option maxHeartbeats 4000000 in
set_option maxRecDepth 100000 in
theorem cat56 (k : Lay β) (hk : k.sz = 4) (P : Nat → Prop) (W : World) (g : Nat) (A1 A2 : Option Addr) (n1 n2 c1 c2 : Nat) (xs ys : List β) (h1 : k.row W P A1 n1 xs) (h2 : k.row W P A2 n2 ys) (hl1 : n1 ≤ 10000) (hl2 : n2 ≤ 10000)
    (hg : g < W.heap.size) (hg0 : W.cell? ⟨g, 0, none⟩ = some (.slice A1 n1 c1)) (hg1 : W.cell? ⟨g, 1, none⟩ = some (.slice A2 n2 c2)) :
    Calls Tryz.prog 56 #[.slice (some ⟨g, 0, none⟩) 2 2] W (NewRow k 86 P W (xs ++ ys)) := by
  have e1 := Lay.row_len h1
  have e2 := Lay.row_len h2
  have H1 := Lib.hid h1
  have H2 := Lib.hid h2
  have HGW := Lib.hid (fun W' => (show Calls Tryz.prog 110 #[.slice none 0 0, .int .i64 ((n1 : Int) + (n2 : Int))] W' (NewRow k 86 P W' []) from by
    have := grow110 k hk P (n1 + n2) W' (by omega)
    rwa [Int.natCast_add] at this))
  have HAP := Lib.hid (fun (X : World) (v : Value) (zs ys : List β) (h : k.own 86 X W.heap.size P v zs) (hx : Ext W X) (A : Option Addr) (m : Nat) (hr : k.row W P A m ys) (c : Nat) (hm : zs.length + m ≤ 100000000) =>
    own_app (Pr := Tryz.prog) (t := 82) (z := Value.agg #[.int .i64 0, .int .i64 0, .slice none 0 0, .slice none 0 0]) Tryz.underlying82 (by rw [hk]; exact info86) (by rw [hk]; rfl) (by omega) (by omega) h hx hr c hm)
  clear h1 h2
  have HM1 := Lib.hid e1
  have HM2 := Lib.hid e2
  clear e1 e2
  go_enter Tryz.func56, Tryz.ntmps56
  go_wp2_with fail
  go_loop [3, 11] (fun s3 s11 => Cat1 n1 n2 s3 s11) (fun _ s11 => upM s11)
  case atStart => exact .inl ⟨rfl, rfl⟩
  case round =>
    rcases hrel with ⟨rfl, rfl⟩ | ⟨rfl, rfl⟩ | ⟨rfl, rfl⟩
    · go_wp2_with fail
      exact ⟨.inr (.inl ⟨rfl, rfl⟩), by simp [upM]⟩
    · go_wp2_with fail
      exact ⟨.inr (.inr ⟨rfl, rfl⟩), by simp [upM]⟩
    · go_wp2_with (first | (go_at_call 110; refine (HGW.out _).mono ?_; rintro e w1 ⟨A, c, rfl, ho, hx⟩))
      have HX := Lib.hid hx
      have HO := Lib.hid (show k.own 86 w1 W.heap.size P (.slice A 0 c) [] from ho)
      clear ho hx
      go_loopw [6, 27] (fun s6 s27 w' => Cat2 k 86 P W n1 n2 xs ys s6 s27 w') (fun _ s27 _ => upM s27)
      case atStart => exact ⟨HX.out, .inl ⟨rfl, HO.out, _, _, rfl⟩⟩
      case round =>
        obtain ⟨hxr, hrel⟩ := hrel
        have HXR := Lib.hid hxr
        obtain ⟨q, _⟩ := hxr.cells
        have hq0 := (q g 0 hg).trans hg0
        have hq1 := (q g 1 hg).trans hg1
        clear q hxr
        rcases hrel with ⟨rfl, ho, A', c', rfl⟩ | ⟨rfl, ho, A', c', rfl⟩ | ⟨rfl, ho, A', c', rfl⟩
        · obtain ⟨A3, c3, w3, hrun, ho3, hb3⟩ := HAP.out _ _ _ _ ho HXR.out _ _ H1.out c1 (by simp; omega)
          have HO3 := Lib.hid ho3
          have HB3 := Lib.hid hb3
          clear ho ho3 hb3
          go_wp2_with (first | (at_builtin; refine wpList_append_run (s := .tmp 31) (x := .tmp 32) hrun rfl rfl rfl rfl rfl ?_))
          exact ⟨⟨HB3.out, .inr (.inl ⟨rfl, by simpa using HO3.out, A3, c3, by simp⟩)⟩, by simp [upM]⟩
        · obtain ⟨A3, c3, w3, hrun, ho3, hb3⟩ := HAP.out _ _ _ _ ho HXR.out _ _ H2.out c2 (by have := HM1.out; omega)
          have HO3 := Lib.hid ho3
          have HB3 := Lib.hid hb3
          rw [← HM1.out] at hrun
          clear ho ho3 hb3
          go_wp2_with (first | (at_builtin; refine wpList_append_run (s := .tmp 31) (x := .tmp 32) hrun rfl rfl rfl rfl rfl ?_))
          exact ⟨⟨HB3.out, .inr (.inr ⟨rfl, by have := HO3.out; rw [← HM1.out] at this; exact this, A3, c3, rfl⟩)⟩, by simp [upM]⟩
        · have HO := Lib.hid ho
          clear ho
          go_wp2_with fail
          go_ret
          refine ⟨A', c', ?_, ?_, HXR.out⟩
          · rw [List.length_append, ← HM1.out, ← HM2.out]; rfl
          · rw [List.length_append, ← HM1.out, ← HM2.out]; exact HO.out

theorem info99 : (Tryz.prog.info? 99).map (fun i => (i.zero, i.size, i.bytes)) = some (some (Value.agg #[.string ⟨#[]⟩, .slice none 0 0]), 2, 40) := by kernel_rfl
set_option maxHeartbeats 2000000 in
set_option maxRecDepth 100000 in
theorem grow123 (k : Lay β) (hk : k.sz = 2) (P : Nat → Prop) (n : Nat) (w : World) (hn : n ≤ 100000) : Calls Tryz.prog 123 #[.slice none 0 0, .int .i64 n] w (NewRow k 99 P w []) := by
  by_cases h0 : n = 0
  · subst h0
    go_enter Tryz.func123, Tryz.ntmps123
    go_wp2
    go_ret
    exact ⟨none, 0, rfl, Lay.own_nil _ _ _ _ _, Ext.refl _⟩
  · obtain ⟨i, hi, hz, hs, hb⟩ := info_parts info99
    have hrun := fun W => Lib.run_append_nil_zeros (P := Tryz.prog) W 33 3 33 99 i _ .i64 .i64 Tryz.underlying33 Tryz.underlying3 hi hz n (by omega) (by omega) (by omega) (by rw [hb]; omega)
    have HRUN := Lib.hid hrun
    have hne : ¬ (n : Int) < 0 := by omega
    have hpo : (0 : Int) < (n : Int) := by omega
    clear hrun hi hs hb
    have hz' : (Value.agg #[.string ⟨#[]⟩, .slice none 0 0]).cells.size = 2 := rfl
    go_enter Tryz.func123, Tryz.ntmps123
    go_wp2_with (first | (at_builtin; refine Lib.wpList_append_run _ rfl (.tmp 20) (.tmp 21) 33 3 rfl _ _ rfl rfl _ _ (HRUN.out _) ?_))
    go_ret
    refine ⟨_, _, rfl, ⟨[], ⟨by simp [gcells], .inr ⟨w.heap.size, _, _, rfl, Nat.le_refl _, heap_alloc_new w _, Nat.zero_le _, grownCap_le_maxLen _ _ _ _ (by unfold maxLen; omega), ?_, by simp [gcells]⟩⟩, rfl, fun i d x hd => by simp at hd⟩, ((Ext.refl w).alloc _).drew⟩
    have hg := grownCap_ge w n 0 99
    rw [Array.size_append, size_zeroCells, size_zeroCells, hk]
    simp
    omega
set_option maxHeartbeats 4000000 in
set_option maxRecDepth 100000 in
theorem cat70 (k : Lay β) (hk : k.sz = 2) (P : Nat → Prop) (W : World) (g : Nat) (A1 A2 : Option Addr) (n1 n2 c1 c2 : Nat) (xs ys : List β) (h1 : k.row W P A1 n1 xs) (h2 : k.row W P A2 n2 ys) (hl1 : n1 ≤ 10000) (hl2 : n2 ≤ 10000)
    (hg : g < W.heap.size) (hg0 : W.cell? ⟨g, 0, none⟩ = some (.slice A1 n1 c1)) (hg1 : W.cell? ⟨g, 1, none⟩ = some (.slice A2 n2 c2)) :
    Calls Tryz.prog 70 #[.slice (some ⟨g, 0, none⟩) 2 2] W (NewRow k 99 P W (xs ++ ys)) := by
  have e1 := Lay.row_len h1
  have e2 := Lay.row_len h2
  have H1 := Lib.hid h1
  have H2 := Lib.hid h2
  have HGW := Lib.hid (fun W' => (show Calls Tryz.prog 123 #[.slice none 0 0, .int .i64 ((n1 : Int) + (n2 : Int))] W' (NewRow k 99 P W' []) from by
    have := grow123 k hk P (n1 + n2) W' (by omega)
    rwa [Int.natCast_add] at this))
  have HAP := Lib.hid (fun (X : World) (v : Value) (zs ys : List β) (h : k.own 99 X W.heap.size P v zs) (hx : Ext W X) (A : Option Addr) (m : Nat) (hr : k.row W P A m ys) (c : Nat) (hm : zs.length + m ≤ 100000000) =>
    own_app (Pr := Tryz.prog) (t := 33) (z := Value.agg #[.string ⟨#[]⟩, .slice none 0 0]) Tryz.underlying33 (by rw [hk]; exact info99) (by rw [hk]; rfl) (by omega) (by omega) h hx hr c hm)
  clear h1 h2
  have HM1 := Lib.hid e1
  have HM2 := Lib.hid e2
  clear e1 e2
  go_enter Tryz.func70, Tryz.ntmps70
  go_wp2_with fail
  go_loop [3, 11] (fun s3 s11 => Cat1 n1 n2 s3 s11) (fun _ s11 => upM s11)
  case atStart => exact .inl ⟨rfl, rfl⟩
  case round =>
    rcases hrel with ⟨rfl, rfl⟩ | ⟨rfl, rfl⟩ | ⟨rfl, rfl⟩
    · go_wp2_with fail
      exact ⟨.inr (.inl ⟨rfl, rfl⟩), by simp [upM]⟩
    · go_wp2_with fail
      exact ⟨.inr (.inr ⟨rfl, rfl⟩), by simp [upM]⟩
    · go_wp2_with (first | (go_at_call 123; refine (HGW.out _).mono ?_; rintro e w1 ⟨A, c, rfl, ho, hx⟩))
      have HX := Lib.hid hx
      have HO := Lib.hid (show k.own 99 w1 W.heap.size P (.slice A 0 c) [] from ho)
      clear ho hx
      go_loopw [6, 27] (fun s6 s27 w' => Cat2 k 99 P W n1 n2 xs ys s6 s27 w') (fun _ s27 _ => upM s27)
      case atStart => exact ⟨HX.out, .inl ⟨rfl, HO.out, _, _, rfl⟩⟩
      case round =>
        obtain ⟨hxr, hrel⟩ := hrel
        have HXR := Lib.hid hxr
        obtain ⟨q, _⟩ := hxr.cells
        have hq0 := (q g 0 hg).trans hg0
        have hq1 := (q g 1 hg).trans hg1
        clear q hxr
        rcases hrel with ⟨rfl, ho, A', c', rfl⟩ | ⟨rfl, ho, A', c', rfl⟩ | ⟨rfl, ho, A', c', rfl⟩
        · obtain ⟨A3, c3, w3, hrun, ho3, hb3⟩ := HAP.out _ _ _ _ ho HXR.out _ _ H1.out c1 (by simp; omega)
          have HO3 := Lib.hid ho3
          have HB3 := Lib.hid hb3
          clear ho ho3 hb3
          go_wp2_with (first | (at_builtin; refine wpList_append_run (s := .tmp 31) (x := .tmp 32) hrun rfl rfl rfl rfl rfl ?_))
          exact ⟨⟨HB3.out, .inr (.inl ⟨rfl, by simpa using HO3.out, A3, c3, by simp⟩)⟩, by simp [upM]⟩
        · obtain ⟨A3, c3, w3, hrun, ho3, hb3⟩ := HAP.out _ _ _ _ ho HXR.out _ _ H2.out c2 (by have := HM1.out; omega)
          have HO3 := Lib.hid ho3
          have HB3 := Lib.hid hb3
          rw [← HM1.out] at hrun
          clear ho ho3 hb3
          go_wp2_with (first | (at_builtin; refine wpList_append_run (s := .tmp 31) (x := .tmp 32) hrun rfl rfl rfl rfl rfl ?_))
          exact ⟨⟨HB3.out, .inr (.inr ⟨rfl, by have := HO3.out; rw [← HM1.out] at this; exact this, A3, c3, rfl⟩)⟩, by simp [upM]⟩
        · have HO := Lib.hid ho
          clear ho
          go_wp2_with fail
          go_ret
          refine ⟨A', c', ?_, ?_, HXR.out⟩
          · rw [List.length_append, ← HM1.out, ← HM2.out]; rfl
          · rw [List.length_append, ← HM1.out, ← HM2.out]; exact HO.out
end
end Go.Proofs.YtdbnddmncbjobaaGreatDoor