/- What the laws use: the contracts over a generated list, with the lists named by functions of it. -/
import Derived.Test.YthjjdeabfnlbjaaLives
import Derived.Test.YthjjdeabfnlbjaaRefK
namespace Go.Proofs.Ythjjdeabfnlbjaa
open Go Go.RowKit Go.WideShapes

theorem si_of_row {w : World} {a : Option Addr} {len cap : Nat} {zs : List Int} (h : (a = none ∧ len = 0 ∧ cap = 0 ∧ zs = []) ∨ ∃ x, a = some x ∧ len ≤ cap ∧ cap ≤ maxLen ∧ zs.length = cap ∧ (∀ i, i < zs.length → w.cell? (x.add i) = some (.int .i64 (zs.getD i 0))) ∧ ∀ n ∈ zs, (Lit.int .i64 n).wf = true) :
    len ≤ maxLen ∧ len ≤ cap ∧ cap ≤ maxLen ∧ SI w w.heap.size a len (fun i => zs.getD i 0) := by
  rcases h with ⟨rfl, rfl, rfl, rfl⟩ | ⟨x, rfl, h1, h2, h3, h4, h5⟩
  · exact ⟨by simp [maxLen], Nat.le_refl _, by simp [maxLen], ⟨fun h => absurd h (by omega), fun i h => absurd h (by omega)⟩⟩
  · refine ⟨Nat.le_trans h1 h2, h1, h2, ⟨fun h0 => ?_, fun i hi => ?_⟩⟩
    · obtain ⟨b, off, spot⟩ := x
      have hc := h4 0 (by omega)
      have hspot : spot = none := by simpa [Addr.add] using World.cell?_spot hc
      subst hspot
      have hb : b < w.heap.size := by
        have hc' : w.cell? ⟨b, off, none⟩ = some (.int .i64 (zs.getD 0 0)) := by simpa [Addr.add] using hc
        by_cases hb : b < w.heap.size
        · exact hb
        · exfalso
          unfold World.cell? at hc'
          rw [show w.heap[b]? = none from Array.getElem?_eq_none (by omega)] at hc'
          simp at hc'
      refine ⟨b, off, rfl, hb, fun i hi j u hu => ?_⟩
      have hj : j = 0 := by
        have := (List.getElem?_eq_some_iff.1 hu).1
        simp at this; exact this
      subst hj
      have := h4 i (by omega)
      simp only [Addr.add] at this
      simp at hu
      rw [← hu]
      by_cases hi0 : i = 0
      · subst hi0; simpa using this
      · simpa [hi0] using this
    · have hm : zs.getD i 0 ∈ zs := by
        rw [List.getD_eq_getElem?_getD, List.getElem?_eq_getElem (by omega)]
        exact List.getElem_mem _
      have := h5 _ hm
      simp only [Lit.wf, Bool.and_eq_true, decide_eq_true_eq] at this
      exact this

/-- A generated list in memory. -/
structure Vs (w1 : World) (A : Option Addr) (c : Nat) (L : List Vr) : Prop where
  sv : SV w1 w1.heap.size A L.length L
  ok : checkOf L = 0
  fact : ∀ k, k < L.length → okF (vat L k).fc = true ∧ 0 ≤ (vat L k).fc.en ∧ (vat L k).fc.en ≤ 5
  n40 : L.length ≤ 40
  nc : L.length ≤ c
theorem Vs.at_ {w1 W : World} {A : Option Addr} {c : Nat} {L : List Vr} (h : Vs w1 A c L) (hW : Ext w1 W) : SV W W.heap.size A L.length L := h.sv.lift (Nat.le_refl _) hW
theorem Vs.en {w1 : World} {A : Option Addr} {c : Nat} {L : List Vr} (h : Vs w1 A c L) : ∀ k, k < L.length → 0 ≤ (vat L k).fc.en ∧ (vat L k).fc.en ≤ 5 := fun k hk => (h.fact k hk).2
theorem Vs.kd {w1 : World} {A : Option Addr} {c : Nat} {L : List Vr} (h : Vs w1 A c L) : ∀ k, k < L.length → (vat L k).fc.kd.size ≤ maxLen := fun k hk => by
  have := okF_size (h.fact k hk).1
  simp only [maxLen]; omega
def VsPost (w : World) (e : Ending) (w' : World) : Prop := ∃ (L : List Vr) (A : Option Addr) (c : Nat) (top : Int), e = .returned (.slice A L.length c) ∧ Vs w' A c L ∧ GoodV L top ∧ 0 ≤ top ∧ top ≤ 200 ∧ Ext w w'
theorem vs_any (A : Option Addr) (n c : Nat) (f : Nat → Int) (w W : World) (hn : n ≤ maxLen) (hnc : n ≤ c) (hcm : c ≤ maxLen) (h : SI w w.heap.size A n f) (hW : Ext w W) : Calls Try.prog 14 #[.slice A n c] W (VsPost W) :=
  (vers_any A n c f W hn hnc hcm (SI.lift h (Nat.le_refl _) hW)).mono fun _ _ ⟨L, A', c', top, h1, h2, h3, h4, h5, h6, h7, h8⟩ => ⟨L, A', c', top, h1, ⟨(OV.sv h7).2, h4.ok, h4.fact, h2, h3⟩, h4, h5, h6, h8⟩

def atL (l : List Vr) (op : Int) : List Fc := ratOf (upto l op) (upto l op).length
theorem atL_at (l : List Vr) (op : Int) : IsAt l op (atL l op) := ratOf_at l op
def RowF (m : List Fc) (W : World) (e : Ending) (w' : World) : Prop := ∃ A c, e = .returned (.slice A m.length c) ∧ m.length ≤ 6 ∧ SF w' w'.heap.size A m.length m ∧ Ext W w'
def RowV (m : List Vr) (W : World) (e : Ending) (w' : World) : Prop := ∃ A c, e = .returned (.slice A m.length c) ∧ SV w' w'.heap.size A m.length m ∧ Ext W w'
section
variable {w1 : World} {A : Option Addr} {c : Nat} {L : List Vr}
theorem Vs.at20 (h : Vs w1 A c L) (op : Int) (W : World) (hW : Ext w1 W) : Calls Try.prog 20 #[.slice A L.length c, .int .i64 op] W (RowF (atL L op) W) :=
  (at_any A _ c L op W (by have := h.n40; omega) (h.at_ hW) h.en).mono fun _ _ ⟨m, A', c', h1, h2, h3, h4, h5⟩ => by
    obtain rfl := h2.unique (atL_at L op)
    exact ⟨A', c', h1, h3, h4.sf, h5⟩
theorem Vs.at21 (h : Vs w1 A c L) (op : Int) (W : World) (hW : Ext w1 W) : Calls Try.prog 21 #[.slice A L.length c, .int .i64 op] W (RowF (atL L op) W) :=
  (rat_any A _ c L op W (by have := h.n40; omega) h.nc (h.at_ hW) h.ok h.en).mono fun _ _ ⟨m, A', c', h1, h2, h3, h4, h5⟩ => by
    obtain rfl := h2.unique (atL_at L op)
    exact ⟨A', c', h1, h3, h4.sf, h5⟩
def knownL (l : List Vr) (day op : Int) : List Fc := (atL l op).filter fun f => !pDay day f
theorem Vs.known_post {l : List Vr} {day op : Int} {W : World} (hl : (atL l op).length ≤ 6) {e : Ending} {w' : World} (h : KnownPost l day op W e w') : RowF (knownL l day op) W e w' := by
  obtain ⟨m0, m, A', c', h1, h2, h3, h4, h5⟩ := h
  obtain rfl := h2.unique (atL_at l op)
  subst h3
  exact ⟨A', c', h1, Nat.le_trans (List.length_filter_le _ _) hl, h4.sf, h5⟩
theorem Vs.len6 (h : Vs w1 A c L) (op : Int) : (atL L op).length ≤ 6 := (atL_at L op).len6 h.en
theorem Vs.known22 (h : Vs w1 A c L) (day op : Int) (W : World) (hW : Ext w1 W) : Calls Try.prog 22 #[.slice A L.length c, .int .i64 day, .int .i64 op] W (RowF (knownL L day op) W) :=
  (known_any A _ c L day op W (by have := h.n40; omega) (h.at_ hW) h.en).mono fun _ _ hp => known_post (h.len6 op) hp
theorem Vs.known23 (h : Vs w1 A c L) (day op : Int) (W : World) (hW : Ext w1 W) : Calls Try.prog 23 #[.slice A L.length c, .int .i64 day, .int .i64 op] W (RowF (knownL L day op) W) :=
  (rknown_any A _ c L day op W (by have := h.n40; omega) h.nc (h.at_ hW) h.ok h.en).mono fun _ _ hp => known_post (h.len6 op) hp
def histL (l : List Vr) (en : Int) : List Vr := l.filter fun v => !pEn en v
theorem Vs.hist24 (h : Vs w1 A c L) (en : Int) (W : World) (hW : Ext w1 W) : Calls Try.prog 24 #[.slice A L.length c, .int .i64 en] W (RowV (histL L en) W) :=
  (hist_any A _ c L en W (by have := h.n40; omega) (h.at_ hW)).mono fun _ _ ⟨m, A', c', h1, h2, h3, h4⟩ => by
    obtain rfl : m = histL L en := h2
    exact ⟨A', c', h1, (OV.sv h3).2, h4⟩
theorem Vs.hist25 (h : Vs w1 A c L) (en : Int) (W : World) (hW : Ext w1 W) : Calls Try.prog 25 #[.slice A L.length c, .int .i64 en] W (RowV (histL L en) W) :=
  (rhist_any A _ c L en W (by have := h.n40; omega) (h.at_ hW)).mono fun _ _ ⟨m, A', c', h1, h2, h3, h4⟩ => by
    obtain rfl : m = histL L en := h2
    exact ⟨A', c', h1, (OV.sv h3).2, h4⟩
def addL (l : List Vr) (fr un : Int) : List Fc := wout (atL l un) (atL l fr)
def remL (l : List Vr) (fr un : Int) : List Fc := wout (atL l fr) (atL l un)
def ChgQ (l : List Vr) (fr un : Int) (W : World) (e : Ending) (w' : World) : Prop := ∃ (A1 A2 : Option Addr) (c1 c2 : Nat), e = .returned (.agg #[.slice A1 (addL l fr un).length c1, .slice A2 (remL l fr un).length c2]) ∧
  (addL l fr un).length ≤ 6 ∧ (remL l fr un).length ≤ 6 ∧ SF w' w'.heap.size A1 (addL l fr un).length (addL l fr un) ∧ SF w' w'.heap.size A2 (remL l fr un).length (remL l fr un) ∧ Ext W w'
theorem Vs.chg_post {l : List Vr} {fr un : Int} {W : World} {e : Ending} {w' : World} (h : ChgPost l fr un W e w') : ChgQ l fr un W e w' := by
  obtain ⟨a, b, A1, A2, c1, c2, h1, h2, h3, h4, h5, h6, h7, h8⟩ := h
  obtain rfl := h2.unique (atL_at l fr)
  obtain rfl := h3.unique (atL_at l un)
  exact ⟨A1, A2, c1, c2, h1, Nat.le_trans (wout_len _ _) h5, Nat.le_trans (wout_len _ _) h4, h6, h7, h8⟩
theorem Vs.chg26 (h : Vs w1 A c L) (fr un : Int) (W : World) (hW : Ext w1 W) : Calls Try.prog 26 #[.slice A L.length c, .int .i64 fr, .int .i64 un] W (ChgQ L fr un W) :=
  (chg_any A _ c L fr un W (by have := h.n40; omega) (h.at_ hW) h.en).mono fun _ _ hp => chg_post hp
theorem Vs.chg27 (h : Vs w1 A c L) (fr un : Int) (W : World) (hW : Ext w1 W) : Calls Try.prog 27 #[.slice A L.length c, .int .i64 fr, .int .i64 un] W (ChgQ L fr un W) :=
  (rchg_any A _ c L fr un W (by have := h.n40; omega) h.nc (h.at_ hW) h.ok h.en).mono fun _ _ hp => chg_post hp
end
theorem sameF_eq (W : World) (A A' : Option Addr) (c c' : Nat) (m m' : List Fc) (h : SF W W.heap.size A m.length m) (h' : SF W W.heap.size A' m'.length m') (hm : m.length ≤ 1000) (hm' : m'.length ≤ 1000) (e : m = m') :
    Calls Try.prog 19 #[.slice A m.length c, .slice A' m'.length c'] W fun e w' => e = .returned (.bool true) ∧ Ext W w' :=
  (sameF_any A A' _ _ c c' m m' W hm hm' h h').mono fun _ _ ⟨h1, h2⟩ => ⟨by rw [h1, decide_eq_true e], h2⟩
theorem sameV_eq (W : World) (A A' : Option Addr) (c c' : Nat) (m m' : List Vr) (h : SV W W.heap.size A m.length m) (h' : SV W W.heap.size A' m'.length m') (hm : m.length ≤ 1000) (hm' : m'.length ≤ 1000) (e : m = m') :
    Calls Try.prog 18 #[.slice A m.length c, .slice A' m'.length c'] W fun e w' => e = .returned (.bool true) ∧ Ext W w' :=
  (sameV_any A A' _ _ c c' m m' W hm hm' h h').mono fun _ _ ⟨h1, h2⟩ => ⟨by rw [h1, decide_eq_true e], h2⟩
end Go.Proofs.Ythjjdeabfnlbjaa
