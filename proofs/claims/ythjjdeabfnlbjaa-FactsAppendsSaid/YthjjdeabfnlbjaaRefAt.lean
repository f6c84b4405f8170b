/- The contracts of the reference's At, Known and Changes. -/
import Derived.Test.YthjjdeabfnlbjaaRef
import Derived.Test.YthjjdeabfnlbjaaChgL
import Derived.Deep.DeepCutAuto
namespace Go.Proofs.Ythjjdeabfnlbjaa
open Go Go.RowKit

theorem IsAt.len6 {l : List Vr} {op : Int} {m : List Fc} (h : IsAt l op m) (hen : ∀ k, k < l.length → 0 ≤ (vat l k).fc.en ∧ (vat l k).fc.en ≤ 5) : m.length ≤ 6 := by
  have := nodup_len6 6 (m.map (·.en)) (by
    rw [List.Nodup, List.pairwise_map]
    exact h.sorted.imp fun h => by omega) (fun x hx => by
      obtain ⟨f, hf, rfl⟩ := List.mem_map.1 hx
      obtain ⟨v, h1, h2, h3⟩ := (h.mem f).1 hf
      have h4 := (lastOf_some h1).1
      obtain ⟨j, hj, rfl⟩ := mem_vat (List.mem_filter.1 h4).1
      have := hen j hj
      rw [h3] at this
      omega)
  simpa using this
theorem SF.take {w : World} {B : Nat} {A : Option Addr} {n : Nat} {l : List Fc} (h : SF w B A n l) {k : Nat} (hk : k ≤ n) : SF w B A k (l.take k) := by
  obtain ⟨rfl, h⟩ := h
  refine ⟨by simp; omega, fun h0 => ?_⟩
  obtain ⟨b, off, e, hb, hc⟩ := h (by omega)
  refine ⟨b, off, e, hb, fun i hi j u hu => hc i (by omega) j u ?_⟩
  have : fat (l.take k) i = fat l i := by simp [fat, hi]
  simpa only [this] using hu
theorem SF.drop {w : World} {B : Nat} {b off : Nat} {n : Nat} {l : List Fc} (h : SF w B (some ⟨b, off, none⟩) n l) {k : Nat} (hk : k ≤ n) : SF w B (some ⟨b, off + k * 6, none⟩) (n - k) (l.drop k) := by
  obtain ⟨rfl, h⟩ := h
  refine ⟨by simp, fun h0 => ?_⟩
  obtain ⟨b', off', e, hb, hc⟩ := h (by omega)
  injection e with e; injection e with e1 e2; subst e1; subst e2
  refine ⟨b, off + k * 6, rfl, hb, fun i hi j u hu => ?_⟩
  have : fat (l.drop k) i = fat l (k + i) := by simp [fat]
  simp only [this] at hu
  have := hc (k + i) (by omega) j u hu
  rwa [show off + (k + i) * 6 + j = off + k * 6 + i * 6 + j by omega] at this
theorem SV.drop {w : World} {B : Nat} {b off : Nat} {n : Nat} {l : List Vr} (h : SV w B (some ⟨b, off, none⟩) n l) {k : Nat} (hk : k ≤ n) : SV w B (some ⟨b, off + k * 8, none⟩) (n - k) (l.drop k) := by
  obtain ⟨rfl, h⟩ := h
  refine ⟨by simp, fun h0 => ?_⟩
  obtain ⟨b', off', e, hb, hc⟩ := h (by omega)
  injection e with e; injection e with e1 e2; subst e1; subst e2
  refine ⟨b, off + k * 8, rfl, hb, fun i hi j u hu => ?_⟩
  have : vat (l.drop k) i = vat l (k + i) := by simp [vat]
  simp only [this] at hu
  have := hc (k + i) (by omega) j u hu
  rwa [show off + (k + i) * 8 + j = off + k * 8 + i * 8 + j by omega] at this
theorem SF.kept {w w' : World} {B : Nat} {A : Option Addr} {n : Nat} {l : List Fc} (h : SF w B A n l) (hk : ∀ g, g < B → w'.heap[g]? = w.heap[g]?) : SF w' B A n l := ⟨h.1, h.2.keep fun _ hp => World.cell?_of_block (hk _ hp)⟩
/-- The three appends that put a fact into its place in a further list. -/
theorem ins3 {w wx : World} {A' A3 : Option Addr} {c' c1 c3 k : Nat} {out : List Fc} (hO : OF wx w.heap.size (.slice A' out.length c') out) (hx : Ext w wx) (hk : k ≤ out.length) (hl : out.length ≤ 1000) (f : Fc)
    (h3 : SF wx wx.heap.size A3 (out.length - k) (out.drop k)) :
    ∃ A1 d1 w1 A2 d2 w2 A4 d4 w4, (Builtin.append_ #[38, 38] 38 #[.slice none 0 0, .slice A' k c1]).run Try.prog wx = .ok (.slice A1 k d1) w1 ∧
      (Builtin.append_ #[38, 38] 38 #[.slice A1 k d1, .slice (some ⟨w1.heap.size, 0, none⟩) 1 1]).run Try.prog (w1.alloc (.cells #[.int .i64 f.en, .string f.kd, .int .i64 f.day, .int .i64 f.byy, .int .i64 f.too, .int .i64 f.am] 30)) = .ok (.slice A2 (k + 1) d2) w2 ∧
      (Builtin.append_ #[38, 38] 38 #[.slice A2 (k + 1) d2, .slice A3 (out.length - k) c3]).run Try.prog w2 = .ok (.slice A4 (k + 1 + (out.length - k)) d4) w4 ∧
      OF w4 w.heap.size (.slice A4 (out.take k ++ [f] ++ out.drop k).length d4) (out.take k ++ [f] ++ out.drop k) ∧ Ext w w1 ∧ Ext w w4 := by
  have hsf := hO.sf
  have htk := hsf.take hk
  have htl : (out.take k).length = k := by simp; omega
  obtain ⟨A1, d1, w1, r1, o1, b1, k1, e1⟩ := (OF.nil wx w.heap.size).append5 htk c1 (by simp; omega) hx.lt
  simp only [List.length_nil, Nat.zero_add, List.nil_append] at r1 o1 e1
  have hb1 := b1 _ (Nat.le_refl _)
  have q1 : ∀ g, g < wx.heap.size → w1.heap[g]? = wx.heap[g]? := fun g hg => k1 g hg (fun a e => by cases e)
  have o1' : OF w1 w.heap.size (.slice A1 (out.take k).length d1) (out.take k) := by rw [htl]; exact o1
  have hx1 : Ext w w1 := Below.trans hx hb1
  have hlt1 : wx.heap.size ≤ w1.heap.size := (b1 _ (Nat.le_refl _)).size
  obtain ⟨A2, d2, w2, r2, o2, b2, k2, e2⟩ := (o1'.alloc (.cells #[.int .i64 f.en, .string f.kd, .int .i64 f.day, .int .i64 f.byy, .int .i64 f.too, .int .i64 f.am] 30)).append5 (SF.one w1 f 30) 1 (by omega) (le_alloc hx1.lt _)
  rw [htl] at r2 e2
  have hb2 := b2 _ (Nat.le_refl _)
  have hx2 : Ext w w2 := Below.trans (hx1.alloc _) hb2
  have q2 : ∀ g, g < wx.heap.size → w2.heap[g]? = wx.heap[g]? := fun g hg => by
    rw [k2 g (by simp; omega) (fun a e => by
      rw [htl] at e
      have h5 : (Value.slice A1 k d1).ownBlock = some g := by rw [e]; rfl
      rcases e1 with e1 | e1
      · rw [h5] at e1; cases e1
      · rw [h5] at e1; injection e1 with e1; omega), Below.heap_alloc w1 _ g (by omega), q1 g hg]
  obtain ⟨A4, d4, w4, r4, o4, b4, k4, e4⟩ := (show OF w2 w.heap.size (.slice A2 (out.take k ++ [f]).length d2) (out.take k ++ [f]) by
    have := o2; rw [htl] at this; simpa [Nat.min_eq_left hk] using this).append5 (h3.kept q2) c3 (by simp; omega) hx2.lt
  refine ⟨A1, d1, w1, A2, d2, w2, A4, d4, w4, r1, r2, ?_, ?_, hx1, Below.trans hx2 (b4 _ (Nat.le_refl _))⟩
  · simpa [Nat.min_eq_left hk] using r4
  · have hl5 : (out.take k ++ [f]).length = k + 1 := by simp [Nat.min_eq_left hk]
    have hl4 : (out.take k ++ [f] ++ out.drop k).length = k + 1 + (out.length - k) := by rw [List.length_append, hl5, List.length_drop]
    rw [hl5] at o4
    rw [hl4]; exact o4
theorem SF.drop2 {w : World} {B : Nat} {b off : Nat} {n c : Nat} {l : List Fc} (h : SF w B (some ⟨b, off, none⟩) n l) {k : Nat} (hk : k ≤ n) (hc : n ≤ c) : SF w B (if c = k then some ⟨b, off, none⟩ else some ⟨b, off + k * 6, none⟩) (n - k) (l.drop k) := by
  by_cases e : c = k
  · rw [if_pos e]
    have h0 : n - k = 0 := by omega
    refine ⟨by rw [List.length_drop, h.1], fun hh => by omega⟩
  · rw [if_neg e]; exact h.drop hk
theorem SV.drop2 {w : World} {B : Nat} {b off : Nat} {n c : Nat} {l : List Vr} (h : SV w B (some ⟨b, off, none⟩) n l) {k : Nat} (hk : k ≤ n) (hc : n ≤ c) : SV w B (if c = k then some ⟨b, off, none⟩ else some ⟨b, off + k * 8, none⟩) (n - k) (l.drop k) := by
  by_cases e : c = k
  · rw [if_pos e]
    have h0 : n - k = 0 := by omega
    refine ⟨by rw [List.length_drop, h.1], fun hh => by omega⟩
  · rw [if_neg e]; exact h.drop hk

def Cut6 (s : List Vr) (i0 : Nat) (wr : World) (s9 : Value) (wx : World) : Prop := ∃ (u : Vr) (b2 : Bool), s9 = .bool b2 ∧ lastOf (s.drop (i0 + 1)) (vat s i0).fc.en = (if b2 then some u else none) ∧ Ext wr wx
def RefRel (s : List Vr) (k0 : Nat) (w : World) (o i : Value) (wr : World) : Prop :=
  ∃ (i0 : Nat) (out : List Fc) (A' : Option Addr) (c' : Nat), i0 ≤ k0 ∧ o = .slice A' out.length c' ∧ i = .int .i64 i0 ∧ RAt s i0 out ∧ OF wr w.heap.size (.slice A' out.length c') out ∧ Ext w wr
def refM (k0 : Nat) (i : Value) : Nat := k0 - (intOf i).toNat
theorem refM_lt {k0 i0 : Nat} (h : i0 < k0) : refM k0 (.int .i64 ((i0 : Int) + 1)) < refM k0 (.int .i64 i0) := by
  simp [refM, intOf]; omega
set_option maxRecDepth 100000 in
set_option maxHeartbeats 2000000 in
theorem rat_any (A : Option Addr) (n c : Nat) (l : List Vr) (op : Int) (w : World) (hl : n ≤ 100) (hnc : n ≤ c) (h : SV w w.heap.size A n l) (hok : checkOf l = 0) (hen : ∀ k, k < n → 0 ≤ (vat l k).fc.en ∧ (vat l k).fc.en ≤ 5) :
    Calls Try.prog 21 #[.slice A n c, .int .i64 op] w (AtPost l op w) := by
  obtain rfl : l.length = n := h.1
  have HS := Lib.hid h; clear h
  have HEN := Lib.hid hen; clear hen
  have HOK := Lib.hid hok; clear hok
  go_enter Try.func21, Try.ntmps21
  go_wp2_with fail
  refine (until_any A _ c l op _ (by omega) hnc HS.out).mono ?_
  rintro e w1 ⟨k0, hk0, rfl, hu1, hu2, rfl⟩
  have hup := upto_split (check_ops HOK.out) hk0 hu1 hu2
  have hsl := HS.out.take hk0
  have hDone : ∀ out, RAt (upto l op) k0 out → IsAt l op out := fun out h => RAt.done (by
    have e : (upto l op).length = k0 := by rw [hup]; simp; omega
    rw [e]; exact h)
  rw [hup] at hDone
  have HD := Lib.hid hDone
  have hn0 : (l.take k0).length = k0 := by simp; omega
  have HN0 := Lib.hid hn0
  have HSL := Lib.hid hsl
  revert HD HSL HN0
  generalize l.take k0 = s
  intro HD HN0 HSL
  have hk1 : k0 ≤ 100 := by omega
  have hk2 : k0 ≤ c := by omega
  clear hup hsl hDone hn0 hu1 hu2 hk0
  go_wp2
  go_loopw [6, 7] (fun o i wr => RefRel s k0 w o i wr) (fun _ i _ => refM k0 i)
  case atStart => exact ⟨0, [], none, 0, Nat.zero_le _, rfl, rfl, RAt.nil _, OF.nil _ _, Ext.refl _⟩
  case round =>
    obtain ⟨i0, out, A', c', hi0, rfl, rfl, hrat, hown, hx⟩ := hrel
    have HR := Lib.hid hrat
    have hlen := hrat.len
    have HO := Lib.hid hown; clear hown hrat
    by_cases hlt : i0 < k0
    · have hlt' : (i0 : Int) < k0 := by omega
      have hlt3 : (i0 : Int) + 1 ≤ k0 := by omega
      obtain ⟨b, off, rfl, hb, c0, c1, c2, c3, c4, c5, c6, c7⟩ := SV.at_ (SV.lift HSL.out (Nat.le_refl _) hx) (k := i0) hlt
      have hw1 : IntKind.i64.wrap ((i0 : Int) + 1) = (i0 : Int) + 1 := IntWalk.i64_in _ (by omega)
      have hw2 : (0 : Int) ≤ (i0 : Int) + 1 := by omega
      have hw3 : ((i0 : Int) + 1).toNat = i0 + 1 := by omega
      have hw4 : (i0 : Int) + 1 ≤ c := by omega
      go_upto_region 6 with (fail)
      go_cut [9] (fun s9 wx => Cut6 s i0 wr s9 wx)
      case first =>
        have hsv2 := SV.drop2 (k := i0 + 1) (SV.lift HSL.out (Nat.le_refl _) hx) (by omega) hk2
        have hgc : ∀ o, (wr.alloc o).cell? ⟨b, off + i0 * 8 + 2, none⟩ = some (.int .i64 (vat s i0).fc.en) := fun o => (World.cell?_alloc_lt _ _ _ (by exact hb)).trans c2
        by_cases hci : c = i0 + 1
        all_goals
          first
          | (subst hci; rw [if_pos rfl, show k0 - (i0 + 1) = 0 by omega] at hsv2)
          | rw [if_neg hci] at hsv2
          have HLK : ∀ (W : World) (c9 : Nat), Ext wr W → Calls Try.prog 41 #[.slice _ _ c9, .int .i64 (vat s i0).fc.en] W (LastPost (s.drop (i0 + 1)) (vat s i0).fc.en W) := fun W c9 hW => last_any _ _ c9 (s.drop (i0 + 1)) _ W (by omega) (SV.lift hsv2 (Nat.le_refl _) hW)
          have HLK2 := Lib.hid HLK
          clear HLK hsv2
          have hx0 := Ext.refl wr
          go_region_law (first | (go_simp; go_at_call 41; refine (HLK2.out _ _ (by first | exact hx0.drew | exact (hx0.alloc _).drew)).mono ?_; rintro e w2 ⟨u, b2, rfl, hla, hx2⟩; have HLA := Lib.hid hla; clear hla; first | (have hbk := Bk.ext (Bk.drew (Bk.new wr 32 _)) hx2; obtain ⟨q6, p6⟩ := hbk.cells; clear hbk; simp only []) | simp only []) | fail)
          all_goals
            go_wp2_with fail
            go_meet
            case rel =>
              first
                | exact ⟨u, b2, rfl, HLA.out, Ext.alloc (Ext.trans hx0.drew hx2) _⟩
                | (refine ⟨u, b2, rfl, HLA.out, ?_⟩; iterate 8 (refine Ext.setCell ?_ (Nat.le_refl _) _)
                   exact Ext.trans (hx0.alloc _).drew hx2)
      case rest =>
        obtain ⟨u, b2, rfl, hla, hxr⟩ := hcut
        have HLA := Lib.hid hla; clear hla
        have hxB : Ext w wc := hx.trans hxr
        obtain ⟨_, _, ee, hb, c0, c1, c2, c3, c4, c5, c6, c7⟩ := SV.at_ (SV.lift HSL.out (Nat.le_refl _) hxB) (k := i0) hlt
        injection ee with ee; injection ee with ee1 ee2
        subst ee1; subst ee2
        have HO2 := Lib.hid (HO.out.ext hxr)
        have HX2 := Lib.hid hxB
        clear hx hxr hxB HO hw1 hw2 hw3 hw4
        cases b2
        · cases hst : (vat s i0).st
          · have hR2 : ∀ k, k ≤ out.length → (∀ j, j < k → (fat out j).en < (vat s i0).fc.en) → (k < out.length → ¬ (fat out k).en < (vat s i0).fc.en) → RAt s (i0 + 1) (out.take k ++ [(vat s i0).fc] ++ out.drop k) := fun k h1 h2 h3 => HR.out.ins (by rw [HN0.out]; exact hlt) hst (by have := HLA.out; simpa using this) h1 h2 h3
            have HR2 := Lib.hid hR2
            clear hR2 HR
            rw [hst] at c1
            obtain ⟨A9, c9, e9, hlc, hh⟩ := own_form HO2.out
            injection e9 with e91 e92 e93
            subst e91; subst e93
            rcases hh with ⟨rfl, h0, rfl⟩ | ⟨g, rfl, hg1, hg2, _⟩
            · obtain rfl : out = [] := List.eq_nil_of_length_eq_zero h0
              clear h0 e92
              go_wp2
              go_loopw [10] (fun kk wx => kk = .int .i64 0 ∧ Ext w wx) (fun _ _ => 0)
              case atStart => exact ⟨rfl, HX2.out⟩
              case round =>
                clear HX2 HO2 c0 c1 c2 c3 c4 c5 c6 c7
                obtain ⟨rfl, hxx⟩ := hrel
                go_wp2
                go_quiet (fail)
                have hxA : Ext w (wr.drewN nq) := hxx.drewN _
                obtain ⟨A1, d1, w3, A2, d2, w4, A4, d4, w5, r1, r2, r3, o4, x1, x4⟩ := ins3 (w := w) (wx := wr.drewN nq) (A3 := none) (c1 := 0) (c3 := 0) (k := 0) (OF.nil _ _) hxA (Nat.le_refl 0) (by simp) (vat s i0).fc (⟨rfl, fun h => absurd h (by simp)⟩)
                have hr2 := HR2.out 0 (Nat.le_refl _) (fun j h => absurd h (by omega)) (fun h => absurd h (by simp))
                have HR3 := Lib.hid hr2
                have HO4 := Lib.hid o4
                have HX4 := Lib.hid x4
                clear c0 c1 c2 c3 c4 c5 c6 c7 o4 x4 hr2
                obtain ⟨_, _, ee, hb, c0, c1, c2, c3, c4, c5, c6, c7⟩ := SV.at_ (SV.lift HSL.out (Nat.le_refl _) x1) (k := i0) hlt
                injection ee with ee; injection ee with ee1 ee2
                subst ee1; subst ee2
                simp only [List.length_nil, Nat.zero_add, Nat.sub_self, Nat.add_zero] at r1 r2 r3
                go_wp2_with (first | (at_builtin; refine wpList_append_run (s := .tmp 63) (x := .tmp 66) r1 rfl rfl rfl rfl rfl ?_) | (at_builtin; refine wpList_append_run (s := .tmp 68) (x := .tmp 74) r2 rfl rfl rfl rfl rfl ?_) | (at_builtin; refine wpList_append_run (s := .tmp 76) (x := .tmp 79) r3 rfl rfl rfl rfl rfl ?_))
                have HREL := Lib.hid (show RefRel s k0 w (.slice A4 1 d4) (.int .i64 ((i0 : Int) + 1)) w5 from ⟨i0 + 1, _, A4, d4, by omega, congrArg (fun z => Value.slice A4 z d4) (by simp; try omega), rfl, HR3.out, HO4.out, HX4.out⟩)
                first | exact ⟨HREL.out, refM_lt hlt⟩ | (refine ⟨?_, refM_lt hlt⟩; (repeat apply Exists.intro); refine ⟨?_, rfl⟩; exact HREL.out)
            · go_wp2
              go_loopw [10] (fun kk wx => ∃ j : Nat, j ≤ out.length ∧ kk = .int .i64 j ∧ (∀ m, m < j → (fat out m).en < (vat s i0).fc.en) ∧ OF wx w.heap.size (.slice (some ⟨g, 0, none⟩) out.length c') out ∧ Ext w wx) (fun kk _ => out.length - (intOf kk).toNat)
              case atStart => exact ⟨0, Nat.zero_le _, rfl, fun m h => absurd h (by omega), HO2.out, HX2.out⟩
              case round =>
                clear HX2 HO2 c0 c1 c2 c3 c4 c5 c6 c7
                obtain ⟨j, hj, rfl, hall, hown, hxx⟩ := hrel
                have hjc : (j : Int) ≤ c' := by omega
                have HALL := Lib.hid hall; clear hall
                obtain ⟨_, _, ee, hb, c0, c1, c2, c3, c4, c5, c6, c7⟩ := SV.at_ (SV.lift HSL.out (Nat.le_refl _) hxx) (k := i0) hlt
                injection ee with ee; injection ee with ee1 ee2
                subst ee1; subst ee2
                have hsf0 := hown.sf
                by_cases hlt2 : j < out.length
                · have hlt4 : (j : Int) < out.length := by omega
                  obtain ⟨g', off', ee, hb', f0, f1, f2, f3, f4, f5⟩ := hsf0.at_ (k := j) hlt2
                  injection ee with ee; injection ee with ee1 ee2
                  subst ee1; subst ee2
                  simp only [Nat.zero_add] at f0 f1 f2 f3 f4 f5
                  have HOWN := Lib.hid hown; clear hown hsf0
                  by_cases hen : (fat out j).en < (vat s i0).fc.en
                  · have HE := Lib.hid hen
                    go_wp2
                    go_quiet (fail)
                    go_wp2
                    exact ⟨⟨j + 1, by omega, by go_num, fun m h => (by
                      by_cases e : m = j
                      · subst e; exact HE.out
                      · exact HALL.out m (by omega)), show OF (wr.drewN nq) _ _ _ from HOWN.out, hxx.drewN _⟩, by simp [intOf]; omega⟩
                  · have hdec : decide ((fat out j).en < (vat s i0).fc.en) = false := decide_eq_false hen
                    have HE := Lib.hid hen; clear hen
                    go_wp2
                    go_quiet (fail)
                    have hxA : Ext w (wr.drewN nq) := hxx.drewN _
                    have HO := Lib.hid (show OF (wr.drewN nq) _ _ _ from HOWN.out)
                    have hsf := HO.out.sf
                    clear HOWN f0 f1 f2 f3 f4 f5 hdec
                    obtain ⟨A1, d1, w3, A2, d2, w4, A4, d4, w5, r1, r2, r3, o4, x1, x4⟩ := ins3 (w := w) (wx := wr.drewN nq) (A3 := (if c' = j then some ⟨g, 0, none⟩ else some ⟨g, 0 + j * 6, none⟩)) (c1 := c') (c3 := c' - j) (k := j) (HO.out) hxA hj (by omega) (vat s i0).fc (hsf.drop2 hj hlc)
                    have hr2 := HR2.out j hj HALL.out (fun _ => HE.out)
                    have HR3 := Lib.hid hr2
                    have HO4 := Lib.hid o4
                    have HX4 := Lib.hid x4
                    clear c0 c1 c2 c3 c4 c5 c6 c7 o4 x4 hr2
                    obtain ⟨_, _, ee, hb, c0, c1, c2, c3, c4, c5, c6, c7⟩ := SV.at_ (SV.lift HSL.out (Nat.le_refl _) x1) (k := i0) hlt
                    injection ee with ee; injection ee with ee1 ee2
                    subst ee1; subst ee2
                    have hcj : ¬ c' = j := by omega
                    rw [if_neg hcj, Nat.zero_add] at r3
                    go_wp2_with (first | (at_builtin; refine wpList_append_run (s := .tmp 63) (x := .tmp 66) r1 rfl rfl rfl rfl rfl ?_) | (at_builtin; refine wpList_append_run (s := .tmp 68) (x := .tmp 74) r2 rfl rfl rfl rfl rfl ?_) | (at_builtin; refine wpList_append_run (s := .tmp 76) (x := .tmp 79) r3 rfl rfl rfl rfl rfl ?_))
                    have HREL := Lib.hid (show RefRel s k0 w (.slice A4 (j + 1 + (out.length - j)) d4) (.int .i64 ((i0 : Int) + 1)) w5 from ⟨i0 + 1, _, A4, d4, by omega, congrArg (fun z => Value.slice A4 z d4) (by simp; try omega), rfl, HR3.out, HO4.out, HX4.out⟩)
                    first | exact ⟨HREL.out, refM_lt hlt⟩ | (refine ⟨?_, refM_lt hlt⟩; (repeat apply Exists.intro); refine ⟨?_, rfl⟩; exact HREL.out)
                · obtain rfl : j = out.length := by omega
                  have HOWN := Lib.hid hown; clear hown hsf0
                  go_wp2
                  go_quiet (fail)
                  have hxA : Ext w (wr.drewN nq) := hxx.drewN _
                  have HO := Lib.hid (show OF (wr.drewN nq) _ _ _ from HOWN.out)
                  have hsf := HO.out.sf
                  clear HOWN
                  obtain ⟨A1, d1, w3, A2, d2, w4, A4, d4, w5, r1, r2, r3, o4, x1, x4⟩ := ins3 (w := w) (wx := wr.drewN nq) (A3 := (if c' = out.length then some ⟨g, 0, none⟩ else some ⟨g, 0 + out.length * 6, none⟩)) (c1 := c') (c3 := c' - out.length) (k := out.length) (HO.out) hxA hj (by omega) (vat s i0).fc (hsf.drop2 hj hlc)
                  have hr2 := HR2.out out.length (Nat.le_refl _) HALL.out (fun h => absurd h (Nat.lt_irrefl _))
                  have HR3 := Lib.hid hr2
                  have HO4 := Lib.hid o4
                  have HX4 := Lib.hid x4
                  clear c0 c1 c2 c3 c4 c5 c6 c7 o4 x4 hr2
                  obtain ⟨_, _, ee, hb, c0, c1, c2, c3, c4, c5, c6, c7⟩ := SV.at_ (SV.lift HSL.out (Nat.le_refl _) x1) (k := i0) hlt
                  injection ee with ee; injection ee with ee1 ee2
                  subst ee1; subst ee2
                  by_cases hcj : c' = out.length
                  · subst hcj
                    rw [if_pos rfl] at r3
                    simp only [Nat.sub_self, Nat.add_zero] at r1 r2 r3
                    go_wp2_with (first | (at_builtin; refine wpList_append_run (s := .tmp 63) (x := .tmp 66) r1 rfl rfl rfl rfl rfl ?_) | (at_builtin; refine wpList_append_run (s := .tmp 68) (x := .tmp 74) r2 rfl rfl rfl rfl rfl ?_) | (at_builtin; refine wpList_append_run (s := .tmp 76) (x := .tmp 79) r3 rfl rfl rfl rfl rfl ?_))
                    have HREL := Lib.hid (show RefRel s k0 w (.slice A4 ((out.length + 1)) d4) (.int .i64 ((i0 : Int) + 1)) w5 from ⟨i0 + 1, _, A4, d4, by omega, congrArg (fun z => Value.slice A4 z d4) (by simp; try omega), rfl, HR3.out, HO4.out, HX4.out⟩)
                    first | exact ⟨HREL.out, refM_lt hlt⟩ | (refine ⟨?_, refM_lt hlt⟩; (repeat apply Exists.intro); refine ⟨?_, rfl⟩; exact HREL.out)
                  · rw [if_neg hcj, Nat.zero_add] at r3
                    simp only [Nat.sub_self, Nat.add_zero] at r1 r2 r3
                    go_wp2_with (first | (at_builtin; refine wpList_append_run (s := .tmp 63) (x := .tmp 66) r1 rfl rfl rfl rfl rfl ?_) | (at_builtin; refine wpList_append_run (s := .tmp 68) (x := .tmp 74) r2 rfl rfl rfl rfl rfl ?_) | (at_builtin; refine wpList_append_run (s := .tmp 76) (x := .tmp 79) r3 rfl rfl rfl rfl rfl ?_))
                    have HREL := Lib.hid (show RefRel s k0 w (.slice A4 ((out.length + 1)) d4) (.int .i64 ((i0 : Int) + 1)) w5 from ⟨i0 + 1, _, A4, d4, by omega, congrArg (fun z => Value.slice A4 z d4) (by simp; try omega), rfl, HR3.out, HO4.out, HX4.out⟩)
                    first | exact ⟨HREL.out, refM_lt hlt⟩ | (refine ⟨?_, refM_lt hlt⟩; (repeat apply Exists.intro); refine ⟨?_, rfl⟩; exact HREL.out)
          · rw [hst] at c1
            have HR2 := Lib.hid (HR.out.skip (.inl hst))
            go_wp2
            have HREL := Lib.hid (show RefRel s k0 w (.slice A' out.length c') (.int .i64 ((i0 : Int) + 1)) _ from ⟨i0 + 1, out, A', c', by omega, rfl, rfl, HR2.out, HO2.out, HX2.out⟩)
            first | exact ⟨HREL.out, refM_lt hlt⟩ | (refine ⟨?_, refM_lt hlt⟩; (repeat apply Exists.intro); refine ⟨?_, rfl⟩; exact HREL.out)
        · have HR2 := Lib.hid (HR.out.skip (.inr (by rw [HLA.out]; simp)))
          go_wp2
          have HREL := Lib.hid (show RefRel s k0 w (.slice A' out.length c') (.int .i64 ((i0 : Int) + 1)) _ from ⟨i0 + 1, out, A', c', by omega, rfl, rfl, HR2.out, HO2.out, HX2.out⟩)
          first | exact ⟨HREL.out, refM_lt hlt⟩ | (refine ⟨?_, refM_lt hlt⟩; (repeat apply Exists.intro); refine ⟨?_, rfl⟩; exact HREL.out)
    · obtain rfl : i0 = k0 := by omega
      go_wp2
      go_ret
      exact ⟨out, A', c', rfl, HD.out _ HR.out, (HD.out _ HR.out).len6 HEN.out, HO.out, hx⟩
end Go.Proofs.Ythjjdeabfnlbjaa
