/- slices.SortFunc on at most 12 facts, by their entries: the contract, through insertion sort. -/
import Derived.Test.YthjjdeabfnlbjaaVers
import Derived.StillTailTactics
import Derived.Deep.QuietTactic
import Derived.BigQuiet
import Derived.Deep.DeepCutAuto
namespace Go.Proofs.Ythjjdeabfnlbjaa
open Go Go.RowKit

def CmpPost (a b : Int) (w : World) (e : Ending) (w' : World) : Prop := ∃ r : Int, e = .returned (.int .i64 r) ∧ -1 ≤ r ∧ r ≤ 1 ∧ (r < 0 ↔ a < b) ∧ Ext w w'
theorem isnan_any (x : Int) (w : World) : Calls Try.prog 53 #[.int .i64 x] w fun e w' => e = .returned (.bool false) ∧ w = w' := by
  go_enter Try.func53, Try.ntmps53
  go_wp2
  go_ret
  exact ⟨ret_bool (by simp), rfl⟩
theorem compare_any (a b : Int) (w : World) : Calls Try.prog 39 #[.int .i64 a, .int .i64 b] w (CmpPost a b w) := by
  by_cases h : a < b
  · go_enter Try.func39, Try.ntmps39
    go_wp2_with (first | (go_at_call 53; refine (isnan_any _ _).mono ?_; rintro e w' ⟨rfl, rfl⟩))
    go_ret
    exact ⟨-1, rfl, by omega, by omega, by omega, Ext.refl _⟩
  · by_cases h2 : b < a
    · go_enter Try.func39, Try.ntmps39
      go_wp2_with (first | (go_at_call 53; refine (isnan_any _ _).mono ?_; rintro e w' ⟨rfl, rfl⟩))
      go_ret
      exact ⟨1, rfl, by omega, by omega, by omega, Ext.refl _⟩
    · go_enter Try.func39, Try.ntmps39
      go_wp2_with (first | (go_at_call 53; refine (isnan_any _ _).mono ?_; rintro e w' ⟨rfl, rfl⟩))
      go_ret
      exact ⟨0, rfl, by omega, by omega, by omega, Ext.refl _⟩
theorem cmp_any (f g : Fc) (w : World) : Calls Try.prog 38 #[f.val, g.val] w (CmpPost f.en g.en w) := by
  unfold Fc.val
  go_enter Try.func38, Try.ntmps38
  go_wp2_with (first | (go_at_call 39; refine (compare_any _ _ _).mono ?_; rintro e w1 ⟨r, rfl, h1, h2, h3, hx⟩; have H3 := Lib.hid h3; clear h3))
  go_ret
  exact ⟨r, rfl, h1, h2, H3.out, ((Ext.refl w).alloc _ |>.alloc _).trans hx⟩

theorem fcells_set (l : List Fc) (f : Fc) : ∀ (k : Nat), k < l.length → fcells (l.set k f) = ((((((fcells l).set (k * 6) (.int .i64 f.en)).set (k * 6 + 1) (.string f.kd)).set (k * 6 + 2) (.int .i64 f.day)).set (k * 6 + 3) (.int .i64 f.byy)).set (k * 6 + 4) (.int .i64 f.too)).set (k * 6 + 5) (.int .i64 f.am) := by
  induction l with
  | nil => intro k h; simp at h
  | cons x l ih =>
    intro k h
    cases k with
    | zero => rfl
    | succ k =>
      have ih' := ih k (by simpa using h)
      simp only [fcells, List.set_cons_succ, List.flatMap_cons] at ih' ⊢
      rw [ih']
      have e0 : (k + 1) * 6 = (k * 6) + 1 + 1 + 1 + 1 + 1 + 1 := by omega
      simp only [Fc.cells, List.cons_append, List.nil_append, e0, List.set_cons_succ]

theorem OF.at_ {w : World} {base g cap n : Nat} {l : List Fc} (h : OF w base (.slice (some ⟨g, 0, none⟩) n cap) l) (hn : l.length = n) {k : Nat} (hk : k < n) :
    (w.cell? ⟨g, k * 6, none⟩ = some (.int .i64 (fat l k).en) ∧ w.cell? ⟨g, k * 6 + 1, none⟩ = some (.string (fat l k).kd) ∧ w.cell? ⟨g, k * 6 + 2, none⟩ = some (.int .i64 (fat l k).day) ∧ w.cell? ⟨g, k * 6 + 3, none⟩ = some (.int .i64 (fat l k).byy) ∧
    w.cell? ⟨g, k * 6 + 4, none⟩ = some (.int .i64 (fat l k).too) ∧ w.cell? ⟨g, k * 6 + 5, none⟩ = some (.int .i64 (fat l k).am)) := by
  subst hn
  have c : ∀ j, j < 6 → w.cell? ⟨g, k * 6 + j, none⟩ = (fat l k).cells[j]? := fun j hj => by
    rw [World.ownsRow.cellAt h (k * 6 + j) (by omega)]; exact fcells_at l k hk j hj
  exact ⟨c 0 (by omega), c 1 (by omega), c 2 (by omega), c 3 (by omega), c 4 (by omega), c 5 (by omega)⟩
theorem OF.frozen {w : World} {base g cap n : Nat} {l : List Fc} (h : OF w base (.slice (some ⟨g, 0, none⟩) n cap) l) (hn : l.length = n) : ∀ i, w.frozen? ⟨g, i, none⟩ = false := by
  subst hn; exact World.ownsRow.frozenAt h
theorem OF.put {w : World} {base g cap n : Nat} {l : List Fc} (h : OF w base (.slice (some ⟨g, 0, none⟩) n cap) l) (hn : l.length = n) {k : Nat} (hk : k < n) (f : Fc) :
    OF ((((((w.setCell ⟨g, k * 6, none⟩ (.int .i64 f.en)).setCell ⟨g, k * 6 + 1, none⟩ (.string f.kd)).setCell ⟨g, k * 6 + 2, none⟩ (.int .i64 f.day)).setCell ⟨g, k * 6 + 3, none⟩ (.int .i64 f.byy)).setCell ⟨g, k * 6 + 4, none⟩ (.int .i64 f.too)).setCell ⟨g, k * 6 + 5, none⟩ (.int .i64 f.am))
      base (.slice (some ⟨g, 0, none⟩) n cap) (l.set k f) ∧ w.grownBy ((((((w.setCell ⟨g, k * 6, none⟩ (.int .i64 f.en)).setCell ⟨g, k * 6 + 1, none⟩ (.string f.kd)).setCell ⟨g, k * 6 + 2, none⟩ (.int .i64 f.day)).setCell ⟨g, k * 6 + 3, none⟩ (.int .i64 f.byy)).setCell ⟨g, k * 6 + 4, none⟩ (.int .i64 f.too)).setCell ⟨g, k * 6 + 5, none⟩ (.int .i64 f.am)) (some g) := by
  subst hn
  obtain ⟨h1, g1⟩ := World.ownsRow.stored h (k * 6) (.int .i64 f.en)
  obtain ⟨h2, g2⟩ := World.ownsRow.stored h1 (k * 6 + 1) (.string f.kd)
  obtain ⟨h3, g3⟩ := World.ownsRow.stored h2 (k * 6 + 2) (.int .i64 f.day)
  obtain ⟨h4, g4⟩ := World.ownsRow.stored h3 (k * 6 + 3) (.int .i64 f.byy)
  obtain ⟨h5, g5⟩ := World.ownsRow.stored h4 (k * 6 + 4) (.int .i64 f.too)
  obtain ⟨h6, g6⟩ := World.ownsRow.stored h5 (k * 6 + 5) (.int .i64 f.am)
  have e : ∀ j, some g = some j → w.heap.size ≤ j ∨ some g = some j := fun _ e => .inr e
  refine ⟨?_, ((((g1.andThen g2 e).andThen g3 e).andThen g4 e).andThen g5 e).andThen g6 e⟩
  unfold OF
  rw [fcells_set l f k hk, List.length_set]
  exact h6

theorem OF.drew {w : World} {base : Nat} {v : Value} {l : List Fc} (h : OF w base v l) : OF w.drew base v l := h
theorem grown_drew {a w : World} {row : Option Nat} (h : a.grownBy w row) : a.grownBy w.drew row := ⟨h.os, h.tape, h.output, h.size, h.block⟩

def sw (l : List Fc) (j : Nat) : List Fc := (l.set j (fat l (j - 1))).set (j - 1) (fat l j)
theorem fat_get {l : List Fc} {k : Nat} (h : k < l.length) : l[k] = fat l k := by simp [fat, h]
theorem sw_perm {l : List Fc} {j : Nat} (h : j < l.length) : List.Perm (sw l j) l := by
  have := @List.set_set_perm _ l j (j - 1) h (by omega)
  rw [fat_get h, fat_get (by omega : j - 1 < l.length)] at this
  exact this
theorem sw_at {l : List Fc} {j : Nat} (h0 : j ≠ 0) (h : j < l.length) (a : Nat) : fat (sw l j) a = if a = j - 1 then fat l j else if a = j then fat l (j - 1) else fat l a := by
  unfold fat sw
  by_cases h1 : a = j - 1
  · subst h1; simp [show j - 1 < l.length by omega, fat]
  · by_cases h2 : a = j
    · subst h2; simp [h1, fat, h, show ¬ a - 1 = a by omega]
    · simp [h1, h2, show ¬ j - 1 = a by omega, show ¬ j = a by omega]
theorem sw_step {l : List Fc} {j k : Nat} (h0 : j ≠ 0) (h : j < l.length) (hj : j ≤ k) (hs : ∀ a b, a < b → b < k + 1 → b ≠ j → (fat l a).en ≤ (fat l b).en) (hlt : (fat l j).en < (fat l (j - 1)).en) :
    ∀ a b, a < b → b < k + 1 → b ≠ j - 1 → (fat (sw l j) a).en ≤ (fat (sw l j) b).en := by
  intro a b h1 h2 h3
  rw [sw_at h0 h, sw_at h0 h, if_neg h3]
  by_cases hb : b = j
  · subst hb
    rw [if_pos rfl]
    by_cases ha : a = b - 1
    · rw [if_pos ha]; omega
    · rw [if_neg ha, if_neg (by omega)]; exact hs a (b - 1) (by omega) (by omega) (by omega)
  · rw [if_neg hb]
    by_cases ha : a = j - 1
    · rw [if_pos ha]
      by_cases hbj : b < j
      · omega
      · exact hs j b (by omega) h2 hb
    · rw [if_neg ha]
      by_cases ha2 : a = j
      · rw [if_pos ha2]; exact hs (j - 1) b (by omega) h2 hb
      · rw [if_neg ha2]; exact hs a b h1 h2 hb
theorem ins_done {l : List Fc} {j k n : Nat} (hs : ∀ a b, a < b → b < k + 1 → b ≠ j → (fat l a).en ≤ (fat l b).en) (hlt : j ≠ 0 → ¬ (fat l j).en < (fat l (j - 1)).en) :
    ∀ a b, a < b → b < k + 1 → b < n → (fat l a).en ≤ (fat l b).en := by
  intro a b h1 h2 _
  by_cases hb : b = j
  · subst hb
    have h3 := hlt (by omega)
    by_cases ha : a = b - 1
    · subst ha; omega
    · have := hs a (b - 1) (by omega) (by omega) (by omega); omega
  · exact hs a b h1 h2 hb

def InsPost (l : List Fc) (base g n cap : Nat) (w : World) (e : Ending) (w' : World) : Prop :=
  ∃ m : List Fc, e = .returned (.tuple #[]) ∧ List.Perm m l ∧ (∀ a b, a < b → b < n → (fat m a).en ≤ (fat m b).en) ∧ OF w' base (.slice (some ⟨g, 0, none⟩) n cap) m ∧ w.grownBy w' (some g)

set_option maxRecDepth 100000 in
set_option maxHeartbeats 1000000 in
theorem ins_any (l : List Fc) (base g n cap : Nat) (w : World) (hn : l.length = n) (h12 : n ≤ 12) (h : OF w base (.slice (some ⟨g, 0, none⟩) n cap) l) :
    Calls Try.prog 59 #[.slice (some ⟨g, 0, none⟩) n cap, .int .i64 0, .int .i64 n, .func (.func 38) #[] #[]] w (InsPost l base g n cap w) := by
  have HO := Lib.hid h; clear h
  go_enter Try.func59, Try.ntmps59
  go_wp2
  go_loopw [8] (fun i wr => ∃ (k : Nat) (m : List Fc), 1 ≤ k ∧ i = .int .i64 k ∧ List.Perm m l ∧ (∀ a b, a < b → b < k → b < n → (fat m a).en ≤ (fat m b).en) ∧ OF wr base (.slice (some ⟨g, 0, none⟩) n cap) m ∧ w.grownBy wr (some g)) (fun i _ => n - (intOf i).toNat)
  case atStart => exact ⟨1, l, Nat.le_refl _, rfl, List.Perm.refl _, fun a b h1 h2 _ => absurd h2 (by omega), HO.out, World.grownBy.refl _ _⟩
  case round =>
    obtain ⟨k, m, hk, rfl, hp, hs, hof, hg⟩ := hrel
    have HP := Lib.hid hp; clear hp
    have HSO := Lib.hid hs; clear hs
    have HOF := Lib.hid hof; clear hof
    have HGR := Lib.hid hg; clear hg
    by_cases hlt : k < n
    · go_wp2
      obtain ⟨wo, rfl⟩ : ∃ wo : World, wo = wr := ⟨_, rfl⟩
      go_loopw [9] (fun i wr => ∃ (j : Nat) (m' : List Fc), j ≤ k ∧ i = .int .i64 j ∧ List.Perm m' l ∧ (∀ a b, a < b → b < k + 1 → b ≠ j → (fat m' a).en ≤ (fat m' b).en) ∧ OF wr base (.slice (some ⟨g, 0, none⟩) n cap) m' ∧ w.grownBy wr (some g)) (fun i _ => (intOf i).toNat)
      case atStart => exact ⟨k, m, Nat.le_refl _, rfl, HP.out, fun a b h1 h2 h3 => HSO.out a b h1 (by omega) (by omega), HOF.out, HGR.out⟩
      case round =>
        clear HP HSO HOF HGR
        obtain ⟨j, m', hj, rfl, hp, hs, hof, hg⟩ := hrel
        have hml : m'.length = n := by rw [hp.length_eq, hn]
        have HP := Lib.hid hp; clear hp
        have HSO := Lib.hid hs; clear hs
        have HGR := Lib.hid hg; clear hg
        by_cases hj0 : j = 0
        · subst hj0
          have HOF := Lib.hid hof; clear hof
          go_wp2
          go_quiet (fail)
          go_wp2
          exact ⟨⟨k + 1, m', by omega, by go_num, HP.out, ins_done HSO.out (fun h => absurd rfl h), HOF.out, ⟨HGR.out.os, HGR.out.tape, HGR.out.output, HGR.out.size, HGR.out.block⟩⟩, by simp [intOf]; omega⟩
        · obtain ⟨c0, c1, c2, c3, c4, c5⟩ := hof.at_ hml (k := j) (by omega)
          obtain ⟨d0, d1, d2, d3, d4, d5⟩ := hof.at_ hml (k := j - 1) (by omega)
          have HOF := Lib.hid hof; clear hof
          have b1 : decide (0 < j) = true := by simp; omega
          have b2 : (j : Int) < n := by omega
          have b3 : (0 : Int) ≤ (j : Int) - 1 := by omega
          have b4 : (j : Int) - 1 < n := by omega
          have b7 : (1 : Int) ≤ j := by omega
          have b8 : 1 ≤ j := by omega
          have b5 : ((j : Int) - 1).toNat = j - 1 := by omega
          have b6 : IntKind.i64.wrap ((j : Int) - 1) = (j : Int) - 1 := IntWalk.i64_in _ (by omega)
          go_wp2
          go_still_tail 14, (by kernel_rfl)
          change wpList _ _ _ _ _ wr.drew
          go_wp2_with fail
          refine (cmp_any (fat m' j) (fat m' (j - 1)) _).mono ?_
          rintro e w1 ⟨r, rfl, hr1, hr2, hr3, hx⟩
          have HR3 := Lib.hid hr3; clear hr3
          have hof1 := HOF.out.ext (Ext.of_drew hx)
          have hgr1 : w.grownBy w1 (some g) := HGR.out.andThen (grownBy_ext (Ext.of_drew hx) (some g)) (fun _ e => .inr e)
          have HGR1 := Lib.hid hgr1
          clear c0 c1 c2 c3 c4 c5 d0 d1 d2 d3 d4 d5 hx HGR HOF hgr1
          by_cases hrn : r < 0
          · have hrd : decide (r < 0) = true := by simpa using hrn
            have hlt2 := HR3.out.1 hrn
            have HLT := Lib.hid hlt2; clear hlt2
            obtain ⟨c0, c1, c2, c3, c4, c5⟩ := hof1.at_ hml (k := j) (by omega)
            obtain ⟨d0, d1, d2, d3, d4, d5⟩ := hof1.at_ hml (k := j - 1) (by omega)
            have hfz : ∀ i, w1.frozen? ⟨g, i, none⟩ = false := hof1.frozen hml
            have HOF := Lib.hid hof1; clear hof1
            go_wp2
            go_region
            go_wp2
            obtain ⟨o1, r1⟩ := HOF.out.put hml (k := j) (by omega) (fat m' (j - 1))
            obtain ⟨o2, r2⟩ := o1.put (by simp [hml]) (k := j - 1) (by omega) (fat m' j)
            have o3 : OF _ base (.slice (some ⟨g, 0, none⟩) n cap) (sw m' j) := o2
            have r3 := (HGR1.out.andThen r1 (fun _ e => .inr e)).andThen r2 (fun _ e => .inr e)
            have O3 := Lib.hid o3
            have R3 := Lib.hid r3
            have P3 := Lib.hid ((sw_perm (by omega : j < m'.length)).trans HP.out)
            have S3 := Lib.hid (sw_step hj0 (by omega) hj HSO.out HLT.out)
            have e3 : ((j - 1 : Nat) : Int) = (j : Int) - 1 := by omega
            refine ⟨⟨j - 1, sw m' j, by omega, by rw [e3], P3.out, S3.out, ?_, ?_⟩, by simp [intOf]; omega⟩
            · exact OF.drew O3.out
            · exact grown_drew R3.out
          · have hrd : decide (r < 0) = false := by simpa using hrn
            have hlt2 : ¬ (fat m' j).en < (fat m' (j - 1)).en := fun h => hrn (HR3.out.2 h)
            have HLT := Lib.hid hlt2; clear hlt2
            have HOF := Lib.hid hof1; clear hof1
            go_wp2
            exact ⟨⟨k + 1, m', by omega, by go_num, HP.out, ins_done HSO.out (fun _ => Int.not_lt.2 HLT.out), HOF.out, HGR1.out⟩, by simp [intOf]; omega⟩
    · go_wp2
      go_end0
      exact ⟨m, rfl, HP.out, fun a b h1 h2 => HSO.out a b h1 (by omega) h2, HOF.out, HGR.out⟩
end Go.Proofs.Ythjjdeabfnlbjaa
