/- The loop of facts.Changes: what it keeps in memory, and each kind of round. -/
import Derived.Test.YthjjdeabfnlbjaaKnown
import Derived.Test.YthjjdeabfnlbjaaSame
import Derived.Test.YthjjdeabfnlbjaaPlain5
import Derived.Deep.RegionLaw
namespace Go.Proofs.Ythjjdeabfnlbjaa
open Go Go.RowKit

theorem SF.tail {w : World} {B : Nat} {A : Option Addr} {n c : Nat} {x : Fc} {l : List Fc} (h : SF w B A n (x :: l)) (hc : n ≤ c) : SF w B (if c = 1 then A else A.map (·.add 6)) (n - 1) l := by
  obtain ⟨rfl, h⟩ := h
  refine ⟨by simp, fun h0 => ?_⟩
  simp at h0 hc
  rw [if_neg (by omega)]
  obtain ⟨b, off, rfl, hb, hh⟩ := h (by simp)
  refine ⟨b, off + 6, by simp [Addr.add_lit], hb, fun i hi j u hu => ?_⟩
  have := hh (i + 1) (by simp at hi; simp; omega) j u (by simpa [fat] using hu)
  rwa [show off + (i + 1) * 6 + j = off + 6 + i * 6 + j by omega] at this

def Dis (u v : Value) : Prop := ∀ k, u.ownBlock = some k → v.ownBlock ≠ some k
/-- What the loop of Changes keeps in memory: a2, b2 to come; the variable d in block X; its two rows, which are the call's own and lie apart. -/
structure ChgSt (a b : List Fc) (X : Nat) (B1 B2 R1 R2 : Option Addr) (d1 d2 r1 r2 : Nat) (a2 b2 rem add : List Fc) (wr : World) : Prop where
  st : MSt a b a2 b2 rem add
  la : a2.length ≤ d1
  lb : b2.length ≤ d2
  sa : SF wr X B1 a2.length a2
  sb : SF wr X B2 b2.length b2
  bk : Bk wr X 44 #[.slice R1 add.length r1, .slice R2 rem.length r2]
  oadd : OF wr (X + 1) (.slice R1 add.length r1) add
  orem : OF wr (X + 1) (.slice R2 rem.length r2) rem
  dis : Dis (.slice R1 add.length r1) (.slice R2 rem.length r2)
  ladd : add.length ≤ b.length
  lrem : rem.length ≤ a.length
theorem OF.far {w : World} {base : Nat} {v : Value} {l : List Fc} (h : OF w base v l) {p : Addr} (hp : p.block < base) (u : Value) : OF (w.setCell p u) base v l := ownsRow_setCell_below h hp u
theorem OF.sf {w : World} {base : Nat} {A : Option Addr} {n c : Nat} {l : List Fc} (h : OF w base (.slice A n c) l) : SF w w.heap.size A n l := by
  obtain ⟨A9, c9, e9, _, h9⟩ := h.form
  injection e9 with e1 e2 e3; subst e1; rw [e2]; exact h9
theorem wout_len (a b : List Fc) : (wout a b).length ≤ a.length := List.length_filter_le _ _
theorem MSt.lens {a b a2 b2 rem add : List Fc} (h : MSt a b a2 b2 rem add) : add.length + b2.length ≤ b.length ∧ rem.length + a2.length ≤ a.length := by
  obtain ⟨⟨a1, b1, e1, e2, e3, e4, _, _⟩, _, _⟩ := h
  have h1 := wout_len a1 b
  have h2 := wout_len b1 a
  rw [e3, e4, e1, e2] at *
  simp only [List.length_append]
  omega

def FX (x : Fc) : Obj := .cells #[.int .i64 x.en, .string x.kd, .int .i64 x.day, .int .i64 x.byy, .int .i64 x.too, .int .i64 x.am] 30
/-- What an append of one fact to one of the two rows leaves: v' is the new row with l; the other row o and the variable's block are as they were. -/
def AppR (X : Nat) (l lo : List Fc) (o : Value) (cs : Array Value) (wr : World) (v' : Value) (w' : World) : Prop :=
  ∃ (A3 : Option Addr) (c3 : Nat), v' = .slice A3 l.length c3 ∧ OF w' (X + 1) (.slice A3 l.length c3) l ∧ OF w' (X + 1) o lo ∧ Dis o (.slice A3 l.length c3) ∧ Bk w' X 44 cs ∧ Below (X + 1) wr w'
theorem Dis.symm {u v : Value} (h : Dis u v) : Dis v u := fun k hk e => h k e hk
theorem app_row {X : Nat} {wr : World} {R : Option Addr} {r : Nat} {l lo : List Fc} {o : Value} {cs : Array Value} (hR : OF wr (X + 1) (.slice R l.length r) l) (ho : OF wr (X + 1) o lo) (hd : Dis o (.slice R l.length r)) (hb : Bk wr X 44 cs) (hl : l.length ≤ 100) (x : Fc) (W : World) (hW : Ext wr W) (hr : ∃ B, SF W B (some ⟨wr.heap.size, 0, none⟩) 1 [x]) (hlt : wr.heap.size < W.heap.size) :
    ∃ v' w', (Builtin.append_ #[38, 38] 38 #[.slice R l.length r, .slice (some ⟨wr.heap.size, 0, none⟩) 1 1]).run Try.prog W = .ok v' w' ∧ AppR X (l ++ [x]) lo o cs wr v' w' := by
  obtain ⟨B, hr⟩ := hr
  have hXW : X + 1 ≤ wr.heap.size := hb.lt
  obtain ⟨A3, c3, w3, h1, h2, h3, h4, h5⟩ := OF.append5 (hR.ext hW) hr 1 (by omega) (Nat.le_trans hXW hW.lt)
  have hoW := ho.ext hW
  have hbW := hb.ext hW
  refine ⟨_, w3, h1, A3, c3, by simp, by simpa using h2, ?_, ?_, ?_, ?_⟩
  · refine ⟨hoW.1, ?_⟩
    rcases hoW.2 with e | ⟨g, cap, cur, rfl, e2, e3, rest⟩
    · exact .inl e
    · refine .inr ⟨g, cap, cur, rfl, e2, ?_, rest⟩
      rw [h4 g (lt_of_block e3) (fun a e => hd g rfl (by rw [e]; rfl))]
      exact e3
  · intro k hk e
    have e' : (Value.slice A3 (l.length + 1) c3).ownBlock = some k := by
      cases A3 with
      | none => simp [Value.ownBlock] at e
      | some ad => simpa [Value.ownBlock] using e
    rcases h5 with h5 | h5
    · rw [e'] at h5
      have h6 : (Value.slice R l.length r).ownBlock = some k := h5.symm
      exact hd k hk h6
    · rw [e'] at h5
      injection h5 with h5
      obtain ⟨cs', hcs⟩ := ho.block hk
      have := lt_of_block hcs
      have := hW.lt
      omega
  · exact (h4 X hbW.lt (fun a e => by
      have := (World.ownsRow.lt hR X (by rw [e]; rfl)).1
      omega)).trans hbW
  · exact Below.trans (Below.mono hW hXW) (h3 _ (Nat.le_refl _))

theorem SF.far {w : World} {B : Nat} {A : Option Addr} {n : Nat} {l : List Fc} (h : SF w B A n l) {p : Addr} (hp : B ≤ p.block) (u : Value) : SF (w.setCell p u) B A n l :=
  ⟨h.1, h.2.keep fun q hq => World.cell?_setCell_other _ _ _ _ (fun e => by rw [e] at hp; omega)⟩
theorem SF.down {w w' : World} {B B' : Nat} {A : Option Addr} {n : Nat} {l : List Fc} (h : SF w B A n l) (hb : Below B' w w') (hB : B ≤ B') : SF w' B A n l := ⟨h.1, h.2.below hb hB⟩
/-- The list a2 without its first fact, where the program has it. -/
theorem SF.tail2 {w : World} {B b1 off : Nat} {c : Nat} {x : Fc} {l : List Fc} (h : SF w B (some ⟨b1, off, none⟩) (x :: l).length (x :: l)) (hc : (x :: l).length ≤ c) : SF w B (if c = 1 then some ⟨b1, off, none⟩ else some ⟨b1, off + 6, none⟩) l.length l := by
  have := h.tail hc
  simpa [Addr.add_lit] using this

section
variable {a b : List Fc} {X b1 o1 b2' o2 : Nat} {B1 B2 R1 R2 A3 A4 : Option Addr} {d1 d2 r1 r2 c3 c4 : Nat} {a2 b2 at_ bt rem add : List Fc} {x y : Fc} {wr w3 w4 : World}
theorem ChgSt.left (h : ChgSt a b X (some ⟨b1, o1, none⟩) B2 R1 R2 d1 d2 r1 r2 (x :: at_) b2 rem add wr) (hlt : ∀ y ∈ b2, x.en < y.en)
    (hr3 : OF w3 (X + 1) (.slice A3 (rem ++ [x]).length c3) (rem ++ [x])) (ho3 : OF w3 (X + 1) (.slice R1 add.length r1) add) (hd3 : Dis (.slice R1 add.length r1) (.slice A3 (rem ++ [x]).length c3))
    (hb3 : Bk w3 X 44 #[.slice R1 add.length r1, .slice R2 rem.length r2]) (hx3 : Below (X + 1) wr w3) :
    ChgSt a b X (if d1 = 1 then some ⟨b1, o1, none⟩ else some ⟨b1, o1 + 6, none⟩) B2 R1 A3 (d1 - 1) d2 r1 c3 at_ b2 (rem ++ [x]) add (w3.setCell ⟨X, 1, none⟩ (.slice A3 (rem.length + 1) c3)) := by
  have hst := h.st.left hlt
  have hl := hst.lens
  have hla := h.la
  simp only [List.length_cons] at hla
  refine ⟨hst, by omega, h.lb, ?_, ?_, ?_, ho3.far (Nat.lt_succ_self X) _, hr3.far (Nat.lt_succ_self X) _, hd3, by omega, by omega⟩
  · exact ((h.sa.tail2 h.la).down hx3 (Nat.le_succ X)).far (Nat.le_refl _) _
  · exact (h.sb.down hx3 (Nat.le_succ X)).far (Nat.le_refl _) _
  · have := hb3.set 1 (.slice A3 (rem.length + 1) c3)
    simpa using this
theorem ChgSt.right (h : ChgSt a b X B1 (some ⟨b2', o2, none⟩) R1 R2 d1 d2 r1 r2 a2 (y :: bt) rem add wr) (hlt : ∀ x ∈ a2, y.en < x.en)
    (hr3 : OF w3 (X + 1) (.slice A3 (add ++ [y]).length c3) (add ++ [y])) (ho3 : OF w3 (X + 1) (.slice R2 rem.length r2) rem) (hd3 : Dis (.slice R2 rem.length r2) (.slice A3 (add ++ [y]).length c3))
    (hb3 : Bk w3 X 44 #[.slice R1 add.length r1, .slice R2 rem.length r2]) (hx3 : Below (X + 1) wr w3) :
    ChgSt a b X B1 (if d2 = 1 then some ⟨b2', o2, none⟩ else some ⟨b2', o2 + 6, none⟩) A3 R2 d1 (d2 - 1) c3 r2 a2 bt rem (add ++ [y]) (w3.setCell ⟨X, 0, none⟩ (.slice A3 (add.length + 1) c3)) := by
  have hst := h.st.right hlt
  have hl := hst.lens
  have hlb := h.lb
  simp only [List.length_cons] at hlb
  refine ⟨hst, h.la, by omega, ?_, ?_, ?_, hr3.far (Nat.lt_succ_self X) _, ho3.far (Nat.lt_succ_self X) _, hd3.symm, by omega, by omega⟩
  · exact (h.sa.down hx3 (Nat.le_succ X)).far (Nat.le_refl _) _
  · exact ((h.sb.tail2 h.lb).down hx3 (Nat.le_succ X)).far (Nat.le_refl _) _
  · have := hb3.set 0 (.slice A3 (add.length + 1) c3)
    simpa using this
/-- Both heads are the same fact. -/
theorem ChgSt.skip (h : ChgSt a b X (some ⟨b1, o1, none⟩) (some ⟨b2', o2, none⟩) R1 R2 d1 d2 r1 r2 (x :: at_) (x :: bt) rem add wr) :
    ChgSt a b X (if d1 = 1 then some ⟨b1, o1, none⟩ else some ⟨b1, o1 + 6, none⟩) (if d2 = 1 then some ⟨b2', o2, none⟩ else some ⟨b2', o2 + 6, none⟩) R1 R2 (d1 - 1) (d2 - 1) r1 r2 at_ bt rem add wr := by
  have hst := h.st.eq rfl
  simp only [if_true, List.append_nil] at hst
  have hla := h.la
  have hlb := h.lb
  simp only [List.length_cons] at hla hlb
  exact ⟨hst, by omega, by omega, h.sa.tail2 h.la, h.sb.tail2 h.lb, h.bk, h.oadd, h.orem, h.dis, h.ladd, h.lrem⟩
/-- Both heads are facts of one entry, and differ: both rows have grown, in either order. -/
theorem ChgSt.both (h : ChgSt a b X (some ⟨b1, o1, none⟩) (some ⟨b2', o2, none⟩) R1 R2 d1 d2 r1 r2 (x :: at_) (y :: bt) rem add wr) (he : x.en = y.en) (hne : x ≠ y)
    (hr3 : OF w3 (X + 1) (.slice A3 (rem ++ [x]).length c3) (rem ++ [x])) (ho3 : OF w3 (X + 1) (.slice A4 (add ++ [y]).length c4) (add ++ [y])) (hd3 : Dis (.slice A4 (add ++ [y]).length c4) (.slice A3 (rem ++ [x]).length c3))
    (hb3 : Bk w3 X 44 #[.slice A4 (add.length + 1) c4, .slice A3 (rem.length + 1) c3]) (hx3 : Below X wr w3) :
    ChgSt a b X (if d1 = 1 then some ⟨b1, o1, none⟩ else some ⟨b1, o1 + 6, none⟩) (if d2 = 1 then some ⟨b2', o2, none⟩ else some ⟨b2', o2 + 6, none⟩) A4 A3 (d1 - 1) (d2 - 1) c4 c3 at_ bt (rem ++ [x]) (add ++ [y]) w3 := by
  have hst := h.st.eq he
  simp only [if_neg hne] at hst
  have hl := hst.lens
  have hla := h.la
  have hlb := h.lb
  simp only [List.length_cons] at hla hlb
  refine ⟨hst, by omega, by omega, ?_, ?_, by simpa using hb3, ho3, hr3, hd3, by omega, by omega⟩
  · exact (h.sa.tail2 h.la).down hx3 (Nat.le_refl X)
  · exact (h.sb.tail2 h.lb).down hx3 (Nat.le_refl X)
end

theorem chg_ext {w2 wr w3 : World} (h : Ext w2 wr) (h3 : Below (w2.heap.size + 1) wr w3) (_hX : w2.heap.size < wr.heap.size) (i : Nat) (u : Value) : Ext w2 (w3.setCell ⟨w2.heap.size, i, none⟩ u) :=
  Ext.setCell (Below.trans h (Below.mono h3 (Nat.le_succ _))) (Nat.le_refl _) u

/-- Bk, with what a further block leaves of it, for the walks. -/
theorem Bk.cells2 {w : World} {g : Nat} {t : TypeId} {cs : Array Value} (h : Bk w g t cs) : (∀ i, w.cell? ⟨g, i, none⟩ = cs[i]?) ∧ (∀ i, w.frozen? ⟨g, i, none⟩ = false) ∧ (∀ o i, (w.alloc o).cell? ⟨g, i, none⟩ = cs[i]?) ∧ (∀ n o i, ((w.drewN n).alloc o).cell? ⟨g, i, none⟩ = cs[i]?) ∧
    (∀ n o i, ((w.drewN n).alloc o).frozen? ⟨g, i, none⟩ = false) ∧ (∀ o i, (w.alloc o).frozen? ⟨g, i, none⟩ = false) :=
  ⟨h.cells.1, h.cells.2, fun o => (h.alloc o).cells.1, fun n o => ((h.drewN n).alloc o).cells.1, fun n o => ((h.drewN n).alloc o).cells.2, fun o => (h.alloc o).cells.2⟩

/-- The block of the variable d: its two slices. -/
def ChgPost (l : List Vr) (fr un : Int) (w : World) (e : Ending) (w' : World) : Prop :=
  ∃ (a b : List Fc) (A1 A2 : Option Addr) (c1 c2 : Nat), e = .returned (.agg #[.slice A1 (wout b a).length c1, .slice A2 (wout a b).length c2]) ∧ IsAt l fr a ∧ IsAt l un b ∧ a.length ≤ 6 ∧ b.length ≤ 6 ∧
    SF w' w'.heap.size A1 (wout b a).length (wout b a) ∧ SF w' w'.heap.size A2 (wout a b).length (wout a b) ∧ Ext w w'

/-- The blocks from n on that W has are in w' as they were. -/
def Ext' (n : Nat) (W w' : World) : Prop := ∀ k, n ≤ k → k < W.heap.size → w'.heap[k]? = W.heap[k]?
/-- A fact laid in a block of its own since then reads as it did. -/
theorem SF.keep' {n g m : Nat} {W w' : World} {B : Nat} {l : List Fc} (h : SF W B (some ⟨g, 0, none⟩) m l) (hx : Ext' n W w') (hg : n ≤ g) (hW : g < W.heap.size) : SF w' B (some ⟨g, 0, none⟩) m l := by
  refine ⟨h.1, fun h0 => ?_⟩
  obtain ⟨b, off, e, hb, hc⟩ := h.2 h0
  injection e with e; injection e with e1 e2
  subst e1; subst e2
  refine ⟨g, 0, rfl, hb, fun i hi j u hu => ?_⟩
  have h1 := hc i hi j u hu
  have h2 := hx g hg hW
  unfold World.cell? at h1 ⊢
  simpa only [h2] using h1
/-- What an append of one fact leaves, where other blocks have been laid since wr: AppR, and the blocks laid since wr are as they were. -/
def AppG (X : Nat) (l lo : List Fc) (o : Value) (cs : Array Value) (wr W : World) (v' : Value) (w' : World) : Prop :=
  ∃ (A3 : Option Addr) (c3 : Nat), v' = .slice A3 l.length c3 ∧ OF w' (X + 1) (.slice A3 l.length c3) l ∧ OF w' (X + 1) o lo ∧ Dis o (.slice A3 l.length c3) ∧ Bk w' X 44 cs ∧ Below (X + 1) wr w' ∧ Ext' wr.heap.size W w'
theorem SF.one1 (w : World) (f : Fc) (t : TypeId) (o : Obj) : SF ((w.alloc o).alloc (.cells #[.int .i64 f.en, .string f.kd, .int .i64 f.day, .int .i64 f.byy, .int .i64 f.too, .int .i64 f.am] t)) (w.heap.size + 2) (some ⟨w.heap.size + 1, 0, none⟩) 1 [f] := by
  have := SF.one (w.alloc o) f t
  simpa using this
theorem SF.one0 (w : World) (f : Fc) (t : TypeId) (o : Obj) : SF ((w.alloc (.cells #[.int .i64 f.en, .string f.kd, .int .i64 f.day, .int .i64 f.byy, .int .i64 f.too, .int .i64 f.am] t)).alloc o) (w.heap.size + 1) (some ⟨w.heap.size, 0, none⟩) 1 [f] :=
  (SF.one w f t).ext ((Ext.refl _).alloc o) (by simp)
theorem app_gen {X : Nat} {wr : World} {R : Option Addr} {r : Nat} {l lo : List Fc} {o : Value} {cs : Array Value} (hR : OF wr (X + 1) (.slice R l.length r) l) (ho : OF wr (X + 1) o lo) (hd : Dis o (.slice R l.length r)) (hb : Bk wr X 44 cs) (hl : l.length ≤ 100) (x : Fc) (W : World) (A : Option Addr) (hW : Ext wr W) (hr : ∃ B, SF W B A 1 [x]) :
    ∃ v' w', (Builtin.append_ #[38, 38] 38 #[.slice R l.length r, .slice A 1 1]).run Try.prog W = .ok v' w' ∧ AppG X (l ++ [x]) lo o cs wr W v' w' := by
  obtain ⟨B, hr⟩ := hr
  have hXW : X + 1 ≤ wr.heap.size := hb.lt
  obtain ⟨A3, c3, w3, h1, h2, h3, h4, h5⟩ := OF.append5 (hR.ext hW) hr 1 (by omega) (Nat.le_trans hXW hW.lt)
  have hoW := ho.ext hW
  have hbW := hb.ext hW
  refine ⟨_, w3, h1, A3, c3, by simp, by simpa using h2, ?_, ?_, ?_, ?_, ?_⟩
  · refine ⟨hoW.1, ?_⟩
    rcases hoW.2 with e | ⟨g, cap, cur, rfl, e2, e3, rest⟩
    · exact .inl e
    · refine .inr ⟨g, cap, cur, rfl, e2, ?_, rest⟩
      rw [h4 g (lt_of_block e3) (fun a e => hd g rfl (by rw [e]; rfl))]
      exact e3
  · intro k hk e
    have e' : (Value.slice A3 (l.length + 1) c3).ownBlock = some k := by
      cases A3 with
      | none => simp [Value.ownBlock] at e
      | some ad => simpa [Value.ownBlock] using e
    rcases h5 with h5 | h5
    · rw [e'] at h5
      have h6 : (Value.slice R l.length r).ownBlock = some k := h5.symm
      exact hd k hk h6
    · rw [e'] at h5
      injection h5 with h5
      obtain ⟨cs', hcs⟩ := ho.block hk
      have := lt_of_block hcs
      have := hW.lt
      omega
  · exact (h4 X hbW.lt (fun a e => by
      have := (World.ownsRow.lt hR X (by rw [e]; rfl)).1
      omega)).trans hbW
  · exact Below.trans (Below.mono hW hXW) (h3 _ (Nat.le_refl _))
  · intro k hk hkW
    refine h4 k hkW (fun a e => ?_)
    have := (World.ownsRow.lt hR k (by rw [e]; rfl)).2
    omega

def ChgRel (a b : List Fc) (w2 : World) (s7 s8 : Value) (wr : World) : Prop :=
  ∃ (B1 B2 R1 R2 : Option Addr) (d1 d2 r1 r2 : Nat) (a2 b2 rem add : List Fc), s7 = .slice B1 a2.length d1 ∧ s8 = .slice B2 b2.length d2 ∧ ChgSt a b w2.heap.size B1 B2 R1 R2 d1 d2 r1 r2 a2 b2 rem add wr ∧ Ext w2 wr
def chgM (s7 s8 : Value) : Nat := (match s7 with | .slice _ k _ => k | _ => 0) + (match s8 with | .slice _ k _ => k | _ => 0)
theorem chgM_eq (A B : Option Addr) (n c m d : Nat) : chgM (.slice A n c) (.slice B m d) = n + m := rfl
end Go.Proofs.Ythjjdeabfnlbjaa
