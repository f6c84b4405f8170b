/- The contracts of the reference's Same and Alike, of Short, Around, and of the law's 'wrong'. -/
import Derived.Test.YtbmcplnfamgpcaaDoorRk
import Derived.BigQuiet
namespace Go.Proofs.YtbmcplnfamgpcaaDoor
open Go Go.RowKit

theorem stood36 : Tryd.prog.stoodInHeld 36 = false := by kernel_rfl
theorem str36 : Tryd.prog.underlying 36 = some (.struct (Tryd.prog.fieldsOf 36)) := by kernel_rfl
theorem eqT (f g : Tk) (w : World) : (Op.equalIn 10000 36 (.agg #[.int .i64 f.kd, .int .i64 f.at_, .string ⟨f.tx.toArray⟩, .int .i64 f.nm]) (.agg #[.int .i64 g.kd, .int .i64 g.at_, .string ⟨g.tx.toArray⟩, .int .i64 g.nm])).run Tryd.prog w = .ok (decide (f = g)) w := by
  rw [run_equalIn_struct w 9999 36 _ _ str36 stood36]
  have hd : decide (f = g) = decide (f.kd = g.kd ∧ f.at_ = g.at_ ∧ f.tx = g.tx ∧ f.nm = g.nm) := by
    rw [decide_eq_decide]; cases f; cases g; simp
  rw [hd]
  simp [go_sem]
  by_cases h1 : f.kd = g.kd <;> by_cases h2 : f.at_ = g.at_ <;> by_cases h3 : f.tx = g.tx <;> by_cases h4 : f.nm = g.nm <;> simp [h1, h2, h3, h4]
theorem SL.at {α : Type} {cf : α → List Value} {sz : Nat} {W : World} {A : Option Addr} {m : Nat} {l : List α} (h : SL cf sz W A m l) {k : Nat} (hk : k < m) :
    ∃ b off a, A = some ⟨b, off, none⟩ ∧ b < W.heap.size ∧ l[k]? = some a ∧ a ∈ l ∧ ∀ j u, (cf a)[j]? = some u → W.cell? ⟨b, off + k * sz + j, none⟩ = some u := by
  obtain ⟨b, off, rfl, hb, hc⟩ := h.2 (by omega)
  have hl : k < l.length := by rw [← h.1]; exact hk
  exact ⟨b, off, l[k], rfl, hb, List.getElem?_eq_getElem hl, List.getElem_mem hl, fun j u hu => hc k _ (List.getElem?_eq_getElem hl) j u hu⟩
/-- A token among the elements of a slice. -/
theorem SL.tok {W : World} {A : Option Addr} {m : Nat} {l : List Tk} (h : SL tcf 4 W A m l) {k : Nat} (hk : k < m) :
    ∃ b off t, A = some ⟨b, off, none⟩ ∧ b < W.heap.size ∧ l[k]? = some t ∧ W.cell? ⟨b, off + k * 4, none⟩ = some (.int .i64 t.kd) ∧ W.cell? ⟨b, off + k * 4 + 1, none⟩ = some (.int .i64 t.at_) ∧
      W.cell? ⟨b, off + k * 4 + 2, none⟩ = some (.string ⟨t.tx.toArray⟩) ∧ W.cell? ⟨b, off + k * 4 + 3, none⟩ = some (.int .i64 t.nm) := by
  obtain ⟨b, off, t, h1, h2, h3, _, h5⟩ := h.at hk
  exact ⟨b, off, t, h1, h2, h3, h5 0 _ rfl, h5 1 _ rfl, h5 2 _ rfl, h5 3 _ rfl⟩
def EqRel {α : Type} (f : Tk → α) (a b : List Tk) (s5 : Value) : Prop := ∃ k : Nat, k ≤ a.length ∧ s5 = .int .i64 k ∧ (a.take k).map f = (b.take k).map f
theorem eq_step {α : Type} {f : Tk → α} {a b : List Tk} {k : Nat} {x y : Tk} (h : (a.take k).map f = (b.take k).map f) (hx : a[k]? = some x) (hy : b[k]? = some y) (he : f x = f y) : (a.take (k + 1)).map f = (b.take (k + 1)).map f := by
  rw [List.take_add_one, List.take_add_one, hx, hy, List.map_append, List.map_append, h]; simp [he]
theorem eq_ne {α : Type} {f : Tk → α} {a b : List Tk} {k : Nat} {x y : Tk} (hx : a[k]? = some x) (hy : b[k]? = some y) (he : f x ≠ f y) : a.map f ≠ b.map f := fun e => by
  have h1 : (a.map f)[k]? = some (f x) := by rw [List.getElem?_map, hx]; rfl
  have h2 : (b.map f)[k]? = some (f y) := by rw [List.getElem?_map, hy]; rfl
  rw [e, h2] at h1
  exact he (Option.some.inj h1).symm
theorem eq_len {α : Type} {f : Tk → α} {a b : List Tk} (h : a.length ≠ b.length) : a.map f ≠ b.map f := fun e => h (by simpa using congrArg List.length e)
theorem eq_all {α : Type} {f : Tk → α} {a b : List Tk} (hl : a.length = b.length) (h : (a.take a.length).map f = (b.take a.length).map f) : a.map f = b.map f := by
  rw [List.take_length] at h
  rwa [hl, List.take_length] at h
set_option maxRecDepth 100000 in
set_option maxHeartbeats 4000000 in
theorem same_any (A B : Option Addr) (c d : Nat) (a b : List Tk) (w : World) (ha : a.length ≤ 1000000) (_hb : b.length ≤ 1000000) (h : SL tcf 4 w A a.length a) (h' : SL tcf 4 w B b.length b) :
    Calls Tryd.prog 16 #[.slice A a.length c, .slice B b.length d] w (BoolPost (decide (a = b)) w) := by
  have HS := Lib.hid h
  have HS' := Lib.hid h'
  clear h h'
  by_cases hlen : a.length = b.length
  · have hne : ((a.length : Int) != b.length) = false := by simp [hlen]
    have HL := Lib.hid hlen; clear hlen
    go_enter Tryd.func16, Tryd.ntmps16
    go_wp2
    go_loopw [5] (fun i wr => EqRel id a b i ∧ Ext w wr) (fun i _ => tokM' a.length i)
    case atStart => exact ⟨⟨0, Nat.zero_le _, rfl, rfl⟩, Ext.refl _⟩
    case round =>
      obtain ⟨⟨k, hk, rfl, hno⟩, hx⟩ := hrel
      have HN := Lib.hid hno; clear hno
      by_cases hlt : k < a.length
      · have hlt' : (k : Int) < a.length := by omega
        have hlt2 : k < b.length := by rw [← HL.out]; exact hlt
        have hlt3 : (k : Int) < b.length := by omega
        obtain ⟨b1, o1, x, rfl, hb1, hx1, p0, p1, p2, p3⟩ := (HS.out.ext hx).tok hlt
        obtain ⟨b2, o2, y, rfl, hb2, hy1, q0, q1, q2, q3⟩ := (HS'.out.ext hx).tok hlt2
        have hcmp := fun W => eqT x y W
        have HX := Lib.hid hx1
        have HY := Lib.hid hy1
        clear hx1 hy1
        cases hd : decide (x = y)
        · rw [hd] at hcmp
          have HD := Lib.hid (of_decide_eq_false hd)
          clear hd
          go_wp2
          go_quiet (fail)
          go_wp2
          go_ret
          exact ⟨ret_bool (by rw [eq_comm, decide_eq_false_iff_not]; intro e; exact eq_ne (f := id) HX.out HY.out HD.out (by rw [e])), hx.drewN _⟩
        · rw [hd] at hcmp
          have HD := Lib.hid (of_decide_eq_true hd)
          clear hd
          go_wp2
          go_quiet (fail)
          go_wp2
          exact ⟨⟨⟨k + 1, by omega, rfl, eq_step HN.out HX.out HY.out HD.out⟩, hx.drewN _⟩, by simp only [tokM']; omega⟩
      · obtain rfl : k = a.length := by omega
        have hni : ¬ ((a.length : Int) < (a.length : Int)) := by omega
        go_wp2
        go_ret
        exact ⟨ret_bool (by rw [eq_comm, decide_eq_true_iff]; simpa using eq_all (f := id) HL.out HN.out), hx⟩
  · have hne : ((a.length : Int) != b.length) = true := by rw [bne_iff_ne]; omega
    have HL := Lib.hid hlen; clear hlen
    go_enter Tryd.func16, Tryd.ntmps16
    go_wp2
    go_ret
    exact ⟨ret_bool (by rw [eq_comm, decide_eq_false_iff_not]; intro e; exact HL.out (by rw [e])), Ext.refl _⟩
theorem eqTri (f g : Tk) : decide ((⟨f.kd, g.at_, f.tx, f.nm⟩ : Tk) = g) = decide (tri f = tri g) := by
  rw [decide_eq_decide]; cases f; cases g; simp [tri]
set_option maxRecDepth 100000 in
set_option maxHeartbeats 4000000 in
theorem alike_any (A B : Option Addr) (c d : Nat) (a b : List Tk) (w : World) (ha : a.length ≤ 1000000) (_hb : b.length ≤ 1000000) (h : SL tcf 4 w A a.length a) (h' : SL tcf 4 w B b.length b) :
    Calls Tryd.prog 21 #[.slice A a.length c, .slice B b.length d] w (BoolPost (decide (a.map tri = b.map tri)) w) := by
  have HS := Lib.hid h
  have HS' := Lib.hid h'
  clear h h'
  by_cases hlen : a.length = b.length
  · have hne : ((a.length : Int) != b.length) = false := by simp [hlen]
    have HL := Lib.hid hlen; clear hlen
    go_enter Tryd.func21, Tryd.ntmps21
    go_wp2
    go_loopw [5] (fun i wr => EqRel tri a b i ∧ Ext w wr) (fun i _ => tokM' a.length i)
    case atStart => exact ⟨⟨0, Nat.zero_le _, rfl, rfl⟩, Ext.refl _⟩
    case round =>
      obtain ⟨⟨k, hk, rfl, hno⟩, hx⟩ := hrel
      have HN := Lib.hid hno; clear hno
      by_cases hlt : k < a.length
      · have hlt' : (k : Int) < a.length := by omega
        have hlt2 : k < b.length := by rw [← HL.out]; exact hlt
        have hlt3 : (k : Int) < b.length := by omega
        obtain ⟨b1, o1, x, rfl, hb1, hx1, p0, p1, p2, p3⟩ := (HS.out.ext hx).tok hlt
        obtain ⟨b2, o2, y, rfl, hb2, hy1, q0, q1, q2, q3⟩ := (HS'.out.ext hx).tok hlt2
        have hcmp := fun W => eqT ⟨x.kd, y.at_, x.tx, x.nm⟩ y W
        simp only [eqTri] at hcmp
        have HX := Lib.hid hx1
        have HY := Lib.hid hy1
        clear hx1 hy1
        cases hd : decide (tri x = tri y)
        · rw [hd] at hcmp
          have HD := Lib.hid (of_decide_eq_false hd)
          clear hd
          go_wp2
          go_quiet (fail)
          go_wp2
          go_ret
          exact ⟨ret_bool (by rw [eq_comm, decide_eq_false_iff_not]; exact eq_ne HX.out HY.out HD.out), (hx.alloc _).drewN _⟩
        · rw [hd] at hcmp
          have HD := Lib.hid (of_decide_eq_true hd)
          clear hd
          go_wp2
          go_quiet (fail)
          go_wp2
          exact ⟨⟨⟨k + 1, by omega, rfl, eq_step HN.out HX.out HY.out HD.out⟩, (hx.alloc _).drewN _⟩, by simp only [tokM']; omega⟩
      · obtain rfl : k = a.length := by omega
        have hni : ¬ ((a.length : Int) < (a.length : Int)) := by omega
        go_wp2
        go_ret
        exact ⟨ret_bool (by rw [eq_comm, decide_eq_true_iff]; exact eq_all HL.out HN.out), hx⟩
  · have hne : ((a.length : Int) != b.length) = true := by rw [bne_iff_ne]; omega
    have HL := Lib.hid hlen; clear hlen
    go_enter Tryd.func21, Tryd.ntmps21
    go_wp2
    go_ret
    exact ⟨ret_bool (by rw [eq_comm, decide_eq_false_iff_not]; exact eq_len HL.out), Ext.refl _⟩
def EnvT (w : World) : Prop := EnvR w ∧ EnvL w
theorem EnvT.ext {w w' : World} (h : EnvT w) (hx : Ext w w') : EnvT w' := ⟨h.1.ext hx, h.2.ext hx⟩
theorem wrong_true (s : ByteArray) (a e : Int) (hw : lexT s.data.toList = ⟨[], a, e⟩) (w : World) (hs : s.size ≤ 281474976710656) (hE : EnvT w) :
    Calls Tryd.prog 37 #[.string s, .int .i64 a, .int .i64 e] w (BoolPost true w) := by
  have H := Lib.hid (fun X (hX : Ext w X) => (tokens_any s X hs (hE.1.ext hX) (hE.2.ext hX)).mono (R' := fun e' X' => ∃ A c, e' = .returned (.tuple #[.slice A 0 c, .int .i64 a, .int .i64 e]) ∧ Ext X X') (fun e' X' h => by
    obtain ⟨A, c, h1, h2, h3, _⟩ := h
    rw [hw] at h1
    exact ⟨A, c, h1, h3⟩))
  clear hw hE
  go_enter Tryd.func37, Tryd.ntmps37
  go_wp2_with (first | (go_at_call 14; refine (H.out _ (Ext.refl _)).mono ?_; rintro e' w1 ⟨A, c, rfl, hx⟩))
  go_ret
  exact ⟨ret_bool (by simp), hx⟩
def ShortPost (s : ByteArray) (m : Nat) (w : World) (e : Ending) (w' : World) : Prop := ∃ X : ByteArray, X.size ≤ m ∧ Hid (X.data.toList = s.data.toList.take m) ∧ e = .returned (.string X) ∧ w = w'
set_option maxRecDepth 100000 in
theorem short_any (s : ByteArray) (m : Nat) (w : World) (_hs : s.size ≤ 281474976710656) (hm : m ≤ 100000) : Calls Tryd.prog 13 #[.string s, .int .i64 m] w (ShortPost s m w) := by
  by_cases h : s.size ≤ m
  · have hmn : min (s.size : Int) (m : Int) = (s.size : Int) := by omega
    have HM := Lib.hid (show s.data.toList = s.data.toList.take m by rw [List.take_of_length_le]; rw [list_size]; exact h)
    go_enter Tryd.func13, Tryd.ntmps13
    go_wp2
    go_ret
    exact ⟨s, h, Lib.hid HM.out, rfl, rfl⟩
  · have hmn : min (s.size : Int) (m : Int) = (m : Int) := by omega
    go_enter Tryd.func13, Tryd.ntmps13
    go_wp2
    go_ret
    exact ⟨s.extract 0 m, by rw [ByteArray.size_extract]; omega, Lib.hid (extract_take s m), rfl, rfl⟩
end Go.Proofs.YtbmcplnfamgpcaaDoor
