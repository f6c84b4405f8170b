/- Arrays of numbers of the call's own; append of one element. -/
import Derived.Test.YtdbnddmncbjobaaGreatDoorQaf
import Derived.Deep.DeepCutAuto
namespace Go.Proofs.YtdbnddmncbjobaaGreatDoor
section
open Go Go.RowKit

variable {β : Type}
/-- The block b holds the numbers l. -/
def Arr (w : World) (b : Nat) (l : List Int) : Prop := w.heap[b]? = some (.cells (l.map (Value.int .i64)).toArray 3 (0, 0))
theorem Arr.lt {w : World} {b : Nat} {l : List Int} (h : Arr w b l) : b < w.heap.size := lt_of_block h
theorem Arr.cell {w : World} {b : Nat} {l : List Int} (h : Arr w b l) {i : Nat} {x : Int} (hi : l[i]? = some x) : w.cell? ⟨b, i, none⟩ = some (.int .i64 x) := by
  unfold Arr at h
  unfold World.cell?
  simp only [h]
  simp [hi]
theorem Arr.frozen {w : World} {b : Nat} {l : List Int} (h : Arr w b l) (i : Nat) : w.frozen? ⟨b, i, none⟩ = false := by
  unfold Arr at h
  unfold World.frozen?
  simp only [h]
  simp
theorem Arr.set {w : World} {b : Nat} {l : List Int} (h : Arr w b l) (i : Nat) (x : Int) : Arr (w.setCell ⟨b, i, none⟩ (.int .i64 x)) b (l.set i x) := by
  unfold Arr at h ⊢
  rw [heap_setCell_same w b i _ 3 _ h]
  simp [List.map_set]
theorem Arr.other {w : World} {b : Nat} {l : List Int} (h : Arr w b l) {a : Addr} (hn : b ≠ a.block) (u : Value) : Arr (w.setCell a u) b l := by
  unfold Arr at h ⊢
  rw [heap_setCell_other w a b u hn]; exact h
theorem Arr.keep {w w' : World} {b : Nat} {l : List Int} (h : Arr w b l) (hk : w'.heap[b]? = w.heap[b]?) : Arr w' b l := by
  unfold Arr at h ⊢
  rw [hk]; exact h
theorem Arr.ext {w w' : World} {b : Nat} {l : List Int} (h : Arr w b l) (hx : Ext w w') : Arr w' b l := by
  unfold Arr at h ⊢
  rw [hx.block b (lt_of_block h)]; exact h
def iCs (x : Int) : Cs kInt.sz := ⟨[.int .i64 x], rfl, fun u hu => by simp only [List.mem_singleton] at hu; subst hu; rfl⟩
theorem iCs_at {l : List Int} {i : Nat} {d : Cs kInt.sz} (h : (l.map iCs)[i]? = some d) : ∃ x, l[i]? = some x ∧ d = iCs x := by
  induction l generalizing i with
  | nil => cases i <;> cases h
  | cons a r ih =>
    cases i with
    | zero => injection h with h; exact ⟨a, rfl, h.symm⟩
    | succ i => exact ih h
theorem Arr.row {w : World} {b : Nat} {l : List Int} (h : Arr w b l) (P : Nat → Prop) (hP : P b) : kInt.row w P (some ⟨b, 0, none⟩) l.length l := by
  refine ⟨l.map iCs, rfl, List.length_map .., ⟨(List.length_map ..).symm, fun _ => ⟨b, 0, rfl, h.lt, fun i a hi j u hu => ?_⟩⟩, fun x hx => ?_, fun i d x hd hx => ?_⟩
  · obtain ⟨x, hl, rfl⟩ := iCs_at hi
    cases j with
    | zero =>
      injection hu with hu
      subst hu
      rw [show kInt.sz = 1 from rfl, show 0 + i * 1 + 0 = i by omega]
      exact h.cell hl
    | succ j => cases hu
  · injection hx with hx; subst hx; exact ⟨hP, h.lt⟩
  · obtain ⟨y, hl, rfl⟩ := iCs_at hd
    rw [hl] at hx
    injection hx with hx
    subst hx
    rfl
theorem Arr.made (w : World) (n : Nat) : Arr (w.alloc (.cells (Array.replicate n (.int .i64 0)) 3)) w.heap.size (List.replicate n 0) := by
  unfold Arr
  rw [heap_alloc_new w]
  simp
/-- append of one element, whose cells lie in a new block. -/
theorem own_app1 {k : Lay β} {Pr : Program} {t e : TypeId} {z : Value} {bytes : Nat} (ht : Pr.underlying t = some (.slice e)) (hinfo : (Pr.info? e).map (fun i => (i.zero, i.size, i.bytes)) = some (some z, k.sz, bytes)) (hzs : z.cells.size = k.sz) (hsz : 0 < k.sz) (hby : bytes ≤ 1000)
    {base : Nat} {X : World} {P : Nat → Prop} {v : Value} {xs : List β} (h : k.own e X base P v xs) (hb : base ≤ X.heap.size) {cs : Array Value} {T : TypeId} {x : β} (hr : k.rep X (fun j => P j ∧ v.ownBlock ≠ some j) x cs.toList) (c : Nat) (hm : xs.length < 100000000) :
    ∃ A' c' w', (Builtin.append_ #[t, t] t #[v, .slice (some ⟨X.heap.size, 0, none⟩) 1 c]).run Pr (X.alloc (.cells cs T)) = .ok (.slice A' (xs.length + 1) c') w' ∧ k.own e w' base P (.slice A' (xs.length + 1) c') (xs ++ [x]) ∧ (∀ B, B ≤ base → Below B X w') ∧
      (∀ j, j < X.heap.size → v.ownBlock ≠ some j → w'.heap[j]? = X.heap[j]?) ∧ X.heap.size ≤ w'.heap.size ∧ (∀ j, (Value.slice A' (xs.length + 1) c').ownBlock = some j → v.ownBlock = some j ∨ X.heap.size ≤ j) := by
  have hx1 : Ext X (X.alloc (.cells cs T)) := (Ext.refl X).alloc _
  have h' := Lay.own_ext h hx1
  obtain ⟨d0, hd0⟩ : ∃ d0 : Cs k.sz, ccf d0 = cs.toList := ⟨⟨cs.toList, k.len hr, k.one hr⟩, rfl⟩
  have hr' : k.rep X (fun j => P j ∧ v.ownBlock ≠ some j) x (ccf d0) := by rw [hd0]; exact hr
  obtain ⟨A', c', w', r1, r2, r3, r4, r5, r6⟩ := Lay.own_append (e := e) ht hinfo hzs hsz hby h' (A := some ⟨X.heap.size, 0, none⟩) (m := 1) (ds' := [d0]) (ys := [x]) (SL.one X d0 cs hd0.symm T) rfl
    (fun i d y hd hy => by
      cases i with
      | zero =>
        injection hd with hd
        injection hy with hy
        subst hd hy
        exact k.ext hr' hx1
      | succ i => cases hd) c (by omega) (Nat.le_trans hb hx1.lt)
  refine ⟨A', c', w', r1, r2, fun B hB => ?_, fun j hj hne => ?_, Nat.le_trans hx1.lt r5, fun j hj => ?_⟩
  · exact ((Below.refl B X).alloc (Nat.le_trans hB hb) _).trans (r3 B hB)
  · rw [r4 j (Nat.lt_of_lt_of_le hj hx1.lt) hne]; exact hx1.block j hj
  · rcases r6 j hj with h6 | h6
    · exact .inl h6
    · exact .inr (Nat.le_trans hx1.lt h6)
/-- Where lines of so many words end. -/
def cum : Int → List Nat → List Int
  | _, [] => []
  | f, l :: ls => (f + l) :: cum (f + l) ls
theorem cum_len (f : Int) (l : List Nat) : (cum f l).length = l.length := by
  induction l generalizing f with
  | nil => rfl
  | cons a r ih => simp [cum, ih]
theorem dwl' {γ : Type} (xs : List γ) {i : Nat} {p : γ} (h : xs[i]? = some p) : xs.drop i = p :: xs.drop (i + 1) := by
  have hl := (List.getElem?_eq_some_iff.1 h).1
  rw [List.drop_eq_getElem_cons hl]
  congr 1
  rw [List.getElem?_eq_getElem hl] at h
  exact Option.some.inj h
theorem chkWs_inv {b : Bool} {nn k : Int} {w : Wd} {r : List Wd} {k1 : Int} (h : chkWs b nn (w :: r) k = .inr k1) :
    validW w.s = true ∧ (w.key = [] ∨ validW w.key = true) ∧ (w.tb = 0 ∨ w.tb = 1) ∧ (w.nt = 0 ∧ chkWs b nn r k = .inr k1 ∨ w.nt ≠ 0 ∧ b = true ∧ w.nt = k + 1 ∧ k + 1 ≤ nn ∧ chkWs b nn r (k + 1) = .inr k1) := by
  simp only [chkWs] at h
  split at h
  · cases h
  · next h1 =>
    simp only [Bool.or_eq_true, Bool.not_eq_true', not_or, Bool.not_eq_false, Bool.and_eq_true, decide_eq_true_eq, not_and, ne_eq] at h1
    split at h
    · cases h
    · next h2 =>
      refine ⟨h1.1, ?_, by omega, ?_⟩
      · by_cases hk : w.key = []
        · exact .inl hk
        · exact .inr (h1.2 hk)
      · split at h
        · next h3 =>
          split at h
          · cases h
          · next h4 =>
            cases b with
            | false => simp at h4
            | true => exact .inr ⟨h3, rfl, by omega, by omega, h⟩
        · next h3 => exact .inl ⟨by omega, h⟩
end
section
open Go Go.RowKit

def wcf (w : Wd) : List Value := [.string ⟨w.s.toArray⟩, .string ⟨w.key.toArray⟩, .int .i64 w.tb, .int .i64 w.nt]
theorem wcf_len (a : Wd) : (wcf a).length = 4 := rfl
def OkN (v : Wd) : Prop := OkW v ∧ v.nt = 0
def OnePost (w : World) (e : Ending) (w' : World) : Prop := ∃ v : Wd, e = .returned (.agg #[.string ⟨v.s.toArray⟩, .string ⟨v.key.toArray⟩, .int .i64 v.tb, .int .i64 v.nt]) ∧ OkN v ∧ Ext w w'
def OkS (s : List UInt8) : Prop := validW s = true ∧ s.length ≤ 40
/-- A row of strings that are words. -/
def StrBox (W : World) (b n : Nat) : Prop := ∀ k, k < n → ∃ s : List UInt8, W.cell? ⟨b, k, none⟩ = some (.string ⟨s.toArray⟩) ∧ OkS s
theorem StrBox.of (W : World) (l : List (List UInt8)) (hl : ∀ s ∈ l, OkS s) : StrBox (W.alloc (.cells (l.map (fun s => Value.string ⟨s.toArray⟩)).toArray 9)) W.heap.size l.length := fun k hk => by
  refine ⟨l[k], ?_, hl _ (List.getElem_mem hk)⟩
  rw [cell_of_row _ W.heap.size _ _ 9 (0, 0) (heap_alloc_new W _)]
  simp [hk]
theorem voc_box (W : World) : StrBox (W.alloc (.cells #[.string ⟨#[97]⟩, .string ⟨#[116, 104, 101]⟩, .string ⟨#[99, 111, 117, 114, 116]⟩, .string ⟨#[119, 105, 108, 108]⟩, .string ⟨#[104, 101, 97, 114]⟩, .string ⟨#[109, 111, 116, 105, 111, 110]⟩, .string ⟨#[111, 102]⟩, .string ⟨#[112, 108, 97, 105, 110, 116, 105, 102, 102]⟩, .string ⟨#[77, 46, 73, 46, 84, 46]⟩, .string ⟨#[82, 117, 108, 101]⟩, .string ⟨#[49, 50, 40, 98, 41]⟩, .string ⟨#[100, 105, 115, 109, 105, 115, 115, 101, 100]⟩, .string ⟨#[119, 105, 116, 104]⟩, .string ⟨#[112, 114, 101, 106, 117, 100, 105, 99, 101]⟩, .string ⟨#[97, 110, 100]⟩, .string ⟨#[99, 111, 115, 116, 115]⟩, .string ⟨#[87, 87, 87, 64, 87]⟩, .string ⟨#[105, 116]⟩, .string ⟨#[105, 115]⟩, .string ⟨#[115, 111]⟩, .string ⟨#[111, 114, 100, 101, 114, 101, 100, 46]⟩, .string ⟨#[97, 98, 99, 100, 101, 102, 103, 104, 105, 106, 107, 108, 109, 110, 111, 112, 113, 114, 115, 116, 117, 118, 119, 120, 121, 122, 97, 98, 99, 100, 101, 102, 103, 104, 105, 106, 107, 108, 109, 110]⟩] 9)) W.heap.size 22 := StrBox.of W voc voc_ok
theorem key_box (W : World) : StrBox (W.alloc (.cells #[.string ⟨#[99, 111, 115, 116, 115]⟩, .string ⟨#[109, 111, 116, 105, 111, 110]⟩, .string ⟨#[82, 117, 108, 101]⟩, .string ⟨#[115, 109, 105, 116, 104]⟩] 9)) W.heap.size 4 := StrBox.of W vkeys vkeys_ok
/-- A word in a block of its own, not frozen. -/
structure WBox (W : World) (b : Nat) (s k : ByteArray) (t n : Int) : Prop where
  lt : b < W.heap.size
  c0 : W.cell? ⟨b, 0, none⟩ = some (.string s)
  c1 : W.cell? ⟨b, 1, none⟩ = some (.string k)
  c2 : W.cell? ⟨b, 2, none⟩ = some (.int .i64 t)
  c3 : W.cell? ⟨b, 3, none⟩ = some (.int .i64 n)
  f0 : W.frozen? ⟨b, 0, none⟩ = false
  f1 : W.frozen? ⟨b, 1, none⟩ = false
  f2 : W.frozen? ⟨b, 2, none⟩ = false
  f3 : W.frozen? ⟨b, 3, none⟩ = false
theorem WBox.ext {W W' : World} {b : Nat} {s k : ByteArray} {t n : Int} (h : WBox W b s k t n) (hx : Ext W W') : WBox W' b s k t n := by
  obtain ⟨q, p⟩ := hx.cells
  exact ⟨Nat.lt_of_lt_of_le h.lt hx.lt, by rw [q _ _ h.lt]; exact h.c0, by rw [q _ _ h.lt]; exact h.c1, by rw [q _ _ h.lt]; exact h.c2, by rw [q _ _ h.lt]; exact h.c3,
    by rw [p _ _ h.lt]; exact h.f0, by rw [p _ _ h.lt]; exact h.f1, by rw [p _ _ h.lt]; exact h.f2, by rw [p _ _ h.lt]; exact h.f3⟩
theorem WBox.new (W : World) (s k : ByteArray) (t n : Int) (ty : TypeId) : WBox (W.alloc (.cells #[.string s, .string k, .int .i64 t, .int .i64 n] ty)) W.heap.size s k t n :=
  ⟨by simp, by go_simp, by go_simp, by go_simp, by go_simp, by go_simp, by go_simp, by go_simp, by go_simp⟩
theorem Ext.store4 {w W : World} {b : Nat} (h : Ext w W) (hb : w.heap.size ≤ b) (u0 u1 u2 u3 : Value) :
    Ext w ((((W.setCell ⟨b, 0, none⟩ u0).setCell ⟨b, 1, none⟩ u1).setCell ⟨b, 2, none⟩ u2).setCell ⟨b, 3, none⟩ u3) :=
  (((h.setCell (p := ⟨b, 0, none⟩) hb u0).setCell (p := ⟨b, 1, none⟩) hb u1).setCell (p := ⟨b, 2, none⟩) hb u2).setCell (p := ⟨b, 3, none⟩) hb u3
set_option maxHeartbeats 4000000 in
set_option maxRecDepth 100000 in
theorem one_any (n : Nat) (w : World) (hn : n ≤ 100000000) : Calls Tryz.prog 129 #[.int .i64 n] w (OnePost w) := by
  obtain ⟨a, ha⟩ : ∃ a, a = n % 22 := ⟨_, rfl⟩
  obtain ⟨d, hd⟩ : ∃ a, a = n / 22 % 6 := ⟨_, rfl⟩
  obtain ⟨g, hg⟩ : ∃ a, a = n / 132 % 4 := ⟨_, rfl⟩
  obtain ⟨t, ht⟩ : ∃ a, a = n / 528 % 2 := ⟨_, rfl⟩
  have e1 : (n : Int) % 22 = (a : Int) := by omega
  have e2 : (n : Int) / 22 % 6 = (d : Int) := by omega
  have e3 : (n : Int) / 132 % 4 = (g : Int) := by omega
  have e4 : (n : Int) / 528 % 2 = (t : Int) := by omega
  have ha22 : a < 22 := by omega
  have hg4 : g < 4 := by omega
  have ht2 : t < 2 := by omega
  clear ha hd hg ht
  have hvb := voc_box (w.alloc (.cells #[.string ⟨#[]⟩, .string ⟨#[]⟩, .int .i64 0, .int .i64 0] 60))
  have hwb := (WBox.new w ⟨#[]⟩ ⟨#[]⟩ 0 0 60).ext ((Ext.refl _).alloc (.cells #[.string ⟨#[97]⟩, .string ⟨#[116, 104, 101]⟩, .string ⟨#[99, 111, 117, 114, 116]⟩, .string ⟨#[119, 105, 108, 108]⟩, .string ⟨#[104, 101, 97, 114]⟩, .string ⟨#[109, 111, 116, 105, 111, 110]⟩, .string ⟨#[111, 102]⟩, .string ⟨#[112, 108, 97, 105, 110, 116, 105, 102, 102]⟩, .string ⟨#[77, 46, 73, 46, 84, 46]⟩, .string ⟨#[82, 117, 108, 101]⟩, .string ⟨#[49, 50, 40, 98, 41]⟩, .string ⟨#[100, 105, 115, 109, 105, 115, 115, 101, 100]⟩, .string ⟨#[119, 105, 116, 104]⟩, .string ⟨#[112, 114, 101, 106, 117, 100, 105, 99, 101]⟩, .string ⟨#[97, 110, 100]⟩, .string ⟨#[99, 111, 115, 116, 115]⟩, .string ⟨#[87, 87, 87, 64, 87]⟩, .string ⟨#[105, 116]⟩, .string ⟨#[105, 115]⟩, .string ⟨#[115, 111]⟩, .string ⟨#[111, 114, 100, 101, 114, 101, 100, 46]⟩, .string ⟨#[97, 98, 99, 100, 101, 102, 103, 104, 105, 106, 107, 108, 109, 110, 111, 112, 113, 114, 115, 116, 117, 118, 119, 120, 121, 122, 97, 98, 99, 100, 101, 102, 103, 104, 105, 106, 107, 108, 109, 110]⟩] 9))
  have hx2 : Ext w ((w.alloc (.cells #[.string ⟨#[]⟩, .string ⟨#[]⟩, .int .i64 0, .int .i64 0] 60)).alloc (.cells #[.string ⟨#[97]⟩, .string ⟨#[116, 104, 101]⟩, .string ⟨#[99, 111, 117, 114, 116]⟩, .string ⟨#[119, 105, 108, 108]⟩, .string ⟨#[104, 101, 97, 114]⟩, .string ⟨#[109, 111, 116, 105, 111, 110]⟩, .string ⟨#[111, 102]⟩, .string ⟨#[112, 108, 97, 105, 110, 116, 105, 102, 102]⟩, .string ⟨#[77, 46, 73, 46, 84, 46]⟩, .string ⟨#[82, 117, 108, 101]⟩, .string ⟨#[49, 50, 40, 98, 41]⟩, .string ⟨#[100, 105, 115, 109, 105, 115, 115, 101, 100]⟩, .string ⟨#[119, 105, 116, 104]⟩, .string ⟨#[112, 114, 101, 106, 117, 100, 105, 99, 101]⟩, .string ⟨#[97, 110, 100]⟩, .string ⟨#[99, 111, 115, 116, 115]⟩, .string ⟨#[87, 87, 87, 64, 87]⟩, .string ⟨#[105, 116]⟩, .string ⟨#[105, 115]⟩, .string ⟨#[115, 111]⟩, .string ⟨#[111, 114, 100, 101, 114, 101, 100, 46]⟩, .string ⟨#[97, 98, 99, 100, 101, 102, 103, 104, 105, 106, 107, 108, 109, 110, 111, 112, 113, 114, 115, 116, 117, 118, 119, 120, 121, 122, 97, 98, 99, 100, 101, 102, 103, 104, 105, 106, 107, 108, 109, 110]⟩] 9)) := ((Ext.refl w).alloc _).alloc _
  rw [World.size_alloc] at hvb
  have HX2 := Lib.hid hx2
  clear hx2
  go_enter Tryz.func129, Tryz.ntmps129
  go_upto_region 2 with (fail)
  generalize (w.alloc (.cells #[.string ⟨#[]⟩, .string ⟨#[]⟩, .int .i64 0, .int .i64 0] 60)).alloc (.cells #[.string ⟨#[97]⟩, .string ⟨#[116, 104, 101]⟩, .string ⟨#[99, 111, 117, 114, 116]⟩, .string ⟨#[119, 105, 108, 108]⟩, .string ⟨#[104, 101, 97, 114]⟩, .string ⟨#[109, 111, 116, 105, 111, 110]⟩, .string ⟨#[111, 102]⟩, .string ⟨#[112, 108, 97, 105, 110, 116, 105, 102, 102]⟩, .string ⟨#[77, 46, 73, 46, 84, 46]⟩, .string ⟨#[82, 117, 108, 101]⟩, .string ⟨#[49, 50, 40, 98, 41]⟩, .string ⟨#[100, 105, 115, 109, 105, 115, 115, 101, 100]⟩, .string ⟨#[119, 105, 116, 104]⟩, .string ⟨#[112, 114, 101, 106, 117, 100, 105, 99, 101]⟩, .string ⟨#[97, 110, 100]⟩, .string ⟨#[99, 111, 115, 116, 115]⟩, .string ⟨#[87, 87, 87, 64, 87]⟩, .string ⟨#[105, 116]⟩, .string ⟨#[105, 115]⟩, .string ⟨#[115, 111]⟩, .string ⟨#[111, 114, 100, 101, 114, 101, 100, 46]⟩, .string ⟨#[97, 98, 99, 100, 101, 102, 103, 104, 105, 106, 107, 108, 109, 110, 111, 112, 113, 114, 115, 116, 117, 118, 119, 120, 121, 122, 97, 98, 99, 100, 101, 102, 103, 104, 105, 106, 107, 108, 109, 110]⟩] 9) = w2 at *
  obtain ⟨b, hb⟩ : ∃ b, b = w.heap.size := ⟨_, rfl⟩
  rw [← hb] at hvb hwb ⊢
  have HB := Lib.hid hb
  obtain ⟨ss, hS, hSs⟩ := hvb a ha22
  obtain ⟨S, hSe⟩ : ∃ S : ByteArray, S = ⟨ss.toArray⟩ := ⟨_, rfl⟩
  rw [← hSe] at hS
  have HSE := Lib.hid hSe
  have HSS := Lib.hid hSs
  clear hSe hSs
  clear hvb hb
  go_upto_region 3 with (fail)
  have hw3 := WBox.new w2 S ⟨#[]⟩ 0 0 60
  have hwb3 := hwb.ext ((Ext.refl w2).alloc (.cells #[.string S, .string ⟨#[]⟩, .int .i64 0, .int .i64 0] 60))
  have HX3 := Lib.hid (HX2.out.alloc (.cells #[.string S, .string ⟨#[]⟩, .int .i64 0, .int .i64 0] 60))
  have hlt := hwb.lt
  clear hwb hS
  generalize w2.alloc (.cells #[.string S, .string ⟨#[]⟩, .int .i64 0, .int .i64 0] 60) = w3 at *
  obtain ⟨b4, hb4⟩ : ∃ b, b = w2.heap.size := ⟨_, rfl⟩
  rw [← hb4] at hw3 hlt ⊢
  have HB4 := Lib.hid (show w.heap.size ≤ b4 by rw [hb4]; exact HX2.out.lt)
  have hne : b ≠ b4 := by omega
  have hne' : b4 ≠ b := by omega
  clear hb4 hlt
  by_cases hd0 : d = 0
  · have gd : ((d : Int) == 0) = true := by rw [beq_iff_eq]; omega
    have hkb := key_box w3
    have hw4 := hw3.ext ((Ext.refl w3).alloc (.cells #[.string ⟨#[99, 111, 115, 116, 115]⟩, .string ⟨#[109, 111, 116, 105, 111, 110]⟩, .string ⟨#[82, 117, 108, 101]⟩, .string ⟨#[115, 109, 105, 116, 104]⟩] 9))
    have hwb4 := hwb3.ext ((Ext.refl w3).alloc (.cells #[.string ⟨#[99, 111, 115, 116, 115]⟩, .string ⟨#[109, 111, 116, 105, 111, 110]⟩, .string ⟨#[82, 117, 108, 101]⟩, .string ⟨#[115, 109, 105, 116, 104]⟩] 9))
    have HX4 := Lib.hid (HX3.out.alloc (.cells #[.string ⟨#[99, 111, 115, 116, 115]⟩, .string ⟨#[109, 111, 116, 105, 111, 110]⟩, .string ⟨#[82, 117, 108, 101]⟩, .string ⟨#[115, 109, 105, 116, 104]⟩] 9))
    obtain ⟨kk, hK, hKs⟩ := hkb g hg4
    obtain ⟨K, hKe⟩ : ∃ K : ByteArray, K = ⟨kk.toArray⟩ := ⟨_, rfl⟩
    rw [← hKe] at hK
    have HKE := Lib.hid hKe
    have HKS := Lib.hid hKs
    clear hKe
    obtain ⟨z0, y0, y1, y2, y3, y4, y5, y6, y7⟩ := hw4
    obtain ⟨z1, x0, x1, x2, x3, x4, x5, x6, x7⟩ := hwb4
    clear hd0 hkb hw3 hwb3
    have HBL := Lib.hid (Nat.le_of_eq HB.out.symm)
    have HBL4 := Lib.hid HB4.out
    clear hKs
    go_upto_region 4 with (fail)
    go_wp2
    refine bodyPost_ret (v := .agg #[.string S, .string K, .int .i64 t, .int .i64 0]) (by simp [results, Tryz.results129, go_sem, *]) rfl ?_
    refine ⟨⟨ss, kk, t, 0⟩, by rw [HSE.out, HKE.out], ⟨⟨HSS.out.1, .inr HKS.out.1, by simp only; omega, HSS.out.2, HKS.out.2⟩, rfl⟩, Ext.store4 ?_ HBL.out _ _ _ _⟩
    exact ((HX4.out.setCell (p := ⟨b4, 1, none⟩) HBL4.out _).setCell (p := ⟨b4, 2, none⟩) HBL4.out _)
  · have gd : ((d : Int) == 0) = false := by rw [beq_eq_false_iff_ne]; omega
    obtain ⟨z0, y0, y1, y2, y3, y4, y5, y6, y7⟩ := hw3
    obtain ⟨z1, x0, x1, x2, x3, x4, x5, x6, x7⟩ := hwb3
    have HBL := Lib.hid (Nat.le_of_eq HB.out.symm)
    clear hd0
    go_wp2
    refine bodyPost_ret (v := .agg #[.string S, .string ⟨#[]⟩, .int .i64 0, .int .i64 0]) (by simp [results, Tryz.results129, go_sem, *]) rfl ?_
    exact ⟨⟨ss, [], 0, 0⟩, by rw [HSE.out], ⟨⟨HSS.out.1, .inl rfl, .inl rfl, HSS.out.2, by simp⟩, rfl⟩, HX3.out.store4 HBL.out _ _ _ _⟩
end
section
open Go Go.RowKit

theorem neg_tmod_in (n m : Int) (h : n < 0) (h3 : 1 ≤ m) : (n + 1).tmod m ≤ 0 ∧ -(n + 1).tmod m < m := by
  have e : -((n + 1).tmod m) = (-(n + 1)) % m := by rw [← Int.neg_tmod, Int.tmod_eq_emod_of_nonneg (by omega)]
  have hb1 := Int.emod_nonneg (-(n + 1)) (show m ≠ 0 by omega)
  have hb2 := Int.emod_lt_of_pos (-(n + 1)) (show 0 < m by omega)
  omega
def arnd (n m : Int) : Int := (if n < 0 then -(n + 1) else n) % m
theorem arnd_in (n m : Int) (h : 1 ≤ m) : 0 ≤ arnd n m ∧ arnd n m < m :=
  ⟨Int.emod_nonneg _ (by omega), Int.emod_lt_of_pos _ (by omega)⟩
theorem arnd_neg {n m : Int} (h : n < 0) : -((n + 1).tmod m) = arnd n m := by
  unfold arnd
  rw [if_pos h, ← Int.neg_tmod, Int.tmod_eq_emod_of_nonneg (by omega)]
theorem arnd_pos {n m : Int} (h : ¬ n < 0) : n % m = arnd n m := by unfold arnd; rw [if_neg h]
theorem around_fn (n m : Int) (w : World) (h1 : -9223372036854775808 ≤ n) (h2 : n ≤ 9223372036854775807) (h3 : 1 ≤ m) (h4 : m ≤ 1000000000) :
    Calls Tryz.prog 42 #[.int .i64 n, .int .i64 m] w fun e w' => e = .returned (.int .i64 (arnd n m)) ∧ w = w' := by
  by_cases h : n < 0
  · have hb := neg_tmod_in n m h h3
    have HB := Lib.hid hb; clear hb
    have HE := Lib.hid (arnd_neg (m := m) h)
    go_enter Tryz.func42, Tryz.ntmps42
    go_wp2
    go_ret
    exact ⟨ret_int (by simpa using HE.out), rfl⟩
  · have HE := Lib.hid (arnd_pos (m := m) h)
    go_enter Tryz.func42, Tryz.ntmps42
    go_wp2
    go_ret
    exact ⟨ret_int (by simpa using HE.out), rfl⟩
theorem SL.at {α : Type} {cf : α → List Value} {sz : Nat} {W : World} {A : Option Addr} {m : Nat} {l : List α} (h : SL cf sz W A m l) {k : Nat} (hk : k < m) :
    ∃ b off a, A = some ⟨b, off, none⟩ ∧ b < W.heap.size ∧ l[k]? = some a ∧ a ∈ l ∧ ∀ j u, (cf a)[j]? = some u → W.cell? ⟨b, off + k * sz + j, none⟩ = some u := by
  obtain ⟨b, off, rfl, hb, hc⟩ := h.2 (by omega)
  have hl : k < l.length := by rw [← h.1]; exact hk
  exact ⟨b, off, l[k], rfl, hb, List.getElem?_eq_getElem hl, List.getElem_mem hl, fun j u hu => hc k _ (List.getElem?_eq_getElem hl) j u hu⟩
theorem around_nat (n : Int) (m : Nat) (h3 : 1 ≤ m) : ∃ k : Nat, arnd n m = k ∧ k < m := by
  obtain ⟨a, b⟩ := arnd_in n m (by omega)
  exact ⟨(arnd n m).toNat, by omega, by omega⟩
def icf (n : Int) : List Value := [.int .i64 n]
/-- What Pick answers. -/
def pkI (l : List Int) (i m : Nat) : Int := match l[i]? with | some n => arnd n m | none => 0
theorem pk_nat (l : List Int) (i m : Nat) (h : 1 ≤ m) : ∃ k : Nat, pkI l i m = k ∧ k < m := by
  unfold pkI
  cases l[i]? with
  | none => exact ⟨0, rfl, by omega⟩
  | some n => exact around_nat n m h
set_option maxRecDepth 100000 in
theorem pick_any (A : Option Addr) (c : Nat) (l : List Int) (i m : Nat) (w : World) (hm : 1 ≤ m) (hm2 : m ≤ 1000000000) (hb : ∀ n ∈ l, -9223372036854775808 ≤ n ∧ n ≤ 9223372036854775807) (h : SL icf 1 w A l.length l) :
    Calls Tryz.prog 77 #[.slice A l.length c, .int .i64 i, .int .i64 m] w fun e w' => e = .returned (.int .i64 (pkI l i m)) ∧ w = w' := by
  by_cases hil : i < l.length
  · obtain ⟨b, off, n, rfl, hbb, hn, hmem, hc⟩ := h.at hil
    have HP := Lib.hid (show pkI l i m = arnd n m by unfold pkI; rw [hn])
    have hc0 := hc 0 (.int .i64 n) rfl
    rw [Nat.mul_one, Nat.add_zero] at hc0
    have HA := Lib.hid (fun X => around_fn n m X (hb n hmem).1 (hb n hmem).2 (by omega) (by omega))
    have hni : ¬ (l.length : Int) ≤ (i : Int) := by omega
    clear hc hn h
    go_enter Tryz.func77, Tryz.ntmps77
    go_wp2_with (first | (go_at_call 42; refine (HA.out _).mono ?_; rintro e w1 ⟨rfl, rfl⟩))
    go_ret
    exact ⟨ret_int (by rw [HP.out]), rfl⟩
  · have HP := Lib.hid (show pkI l i m = 0 by unfold pkI; rw [List.getElem?_eq_none (by omega)])
    have hni : (l.length : Int) ≤ (i : Int) := by omega
    clear h
    go_enter Tryz.func77, Tryz.ntmps77
    go_wp2
    go_ret
    exact ⟨ret_int (by rw [HP.out]), rfl⟩
theorem wcf_one (a : Wd) : ∀ u ∈ wcf a, u.oneCell' = true := fun u hu => by
  simp only [wcf, List.mem_cons, List.not_mem_nil, or_false] at hu
  rcases hu with rfl | rfl | rfl | rfl <;> rfl
theorem info60 : (Tryz.prog.info? 60).map (fun i => (i.zero, i.size, i.bytes)) = some (some (.agg #[.string ⟨#[]⟩, .string ⟨#[]⟩, .int .i64 0, .int .i64 0]), 4, 48) := by kernel_rfl
theorem ap44_one (X : World) {base : Nat} {v : Value} {l : List Wd} (ho : OL wcf 4 X base 60 v l) (a : Wd) (b : Nat) (hb : b = X.heap.size) (hm : l.length ≤ 10000000) (hbase : base ≤ X.heap.size) :
    ∃ A' c' w', (Builtin.append_ #[54, 54] 54 #[v, .slice (some ⟨b, 0, none⟩) 1 1]).run Tryz.prog (X.alloc (.cells #[.string ⟨a.s.toArray⟩, .string ⟨a.key.toArray⟩, .int .i64 a.tb, .int .i64 a.nt] 60)) = .ok (.slice A' (l.length + 1) c') w' ∧
      OL wcf 4 w' base 60 (.slice A' (l.length + 1) c') (l ++ [a]) ∧ Below base X w' := by
  subst hb
  obtain ⟨A', c', w', h1, h2, h3, _⟩ := OL.append (cf := wcf) (sz := 4) (l' := [a]) wcf_len wcf_one (by omega) Tryz.underlying54 info60 rfl (by omega) (ho.ext ((Ext.refl X).alloc _)) (SL.one (cf := wcf) (sz := 4) X a #[.string ⟨a.s.toArray⟩, .string ⟨a.key.toArray⟩, .int .i64 a.tb, .int .i64 a.nt] rfl 60) 1 (by omega) (by simp; omega)
  exact ⟨A', c', w', h1, h2, Below.trans (Below.mono ((Ext.refl X).alloc _) hbase) (h3 base (Nat.le_refl _))⟩
def PaRel (W : World) (lim : Nat) (s5 s6 s7 : Value) (w' : World) : Prop := ∃ (i : Nat) (x : Int) (A : Option Addr) (c : Nat) (l : List Wd), i ≤ lim ∧ s7 = .int .i64 i ∧ s5 = .int .u32 x ∧ 0 ≤ x ∧ x ≤ 4294967295 ∧ s6 = .slice A l.length c ∧ OL wcf 4 w' W.heap.size 60 s6 l ∧ l.length = i ∧ (∀ v ∈ l, OkN v) ∧ Ext W w'
/-- A paragraph in a block of its own. -/
def GpPost (W : World) (m : Nat) (e : Ending) (W' : World) : Prop := ∃ (A : Option Addr) (c : Nat) (l : List Wd), e = .returned (.slice A l.length c) ∧ OL wcf 4 W' W.heap.size 60 (.slice A l.length c) l ∧ 1 ≤ l.length ∧ l.length ≤ m ∧ (∀ v ∈ l, OkN v) ∧ Ext W W'
theorem bits_in (op : BinOp) (x y : Int) : 0 ≤ bits op .u32 x y ∧ bits op .u32 x y ≤ 4294967295 := by
  unfold bits
  simp only
  rw [IntKind.wrap_u32]
  constructor
  · exact Int.emod_nonneg _ (by decide)
  · exact Int.le_of_lt_add_one (Int.emod_lt_of_pos _ (by decide))
set_option maxHeartbeats 4000000 in
set_option maxRecDepth 100000 in
theorem gpart_any (n m : Nat) (w : World) (hn : n ≤ 1000000) (hm : 1 ≤ m) (hm2 : m ≤ 100) : Calls Tryz.prog 78 #[.int .i64 n, .int .i64 m] w (GpPost w m) := by
  have HO := Lib.hid (fun (k : Nat) (hk : k ≤ 100000000) X => one_any k X hk)
  go_enter Tryz.func78, Tryz.ntmps78
  go_upto_region 4 with (fail)
  obtain ⟨hb1, hb2⟩ := bits_in BinOp.or n 1
  generalize bits BinOp.or IntKind.u32 (n : Int) 1 = x0 at *
  obtain ⟨r, hr⟩ : ∃ r, r = n % m := ⟨_, rfl⟩
  have er : (n : Int) % (m : Int) = (r : Int) := by omega
  have hrm : r < m := by rw [hr]; exact Nat.mod_lt _ (by omega)
  clear hr
  go_loopw [5, 6, 7] (fun s5 s6 s7 w' => PaRel w (1 + r) s5 s6 s7 w') (fun _ _ s7 _ => toM 1000 s7)
  case atStart => exact ⟨0, x0, none, 0, [], by omega, rfl, rfl, hb1, hb2, rfl, OL.nil _ _ _, rfl, (fun v h => by cases h), Ext.refl _⟩
  case round =>
    obtain ⟨i, x, A, c, l, hi, rfl, rfl, hx0, hx1, rfl, ho, hl, hb, hxr⟩ := hrel
    have HOL := Lib.hid ho
    have HXR := Lib.hid hxr
    have HLN := Lib.hid hl
    have HBD := Lib.hid hb
    have hl5 : l.length ≤ 1000 := by omega
    clear ho hxr hl hb
    by_cases hir : i < 1 + r
    · have hirI : (i : Int) < 1 + (r : Int) := by omega
      have hi5 : (i : Int) ≤ 1000 := by omega
      go_upto_region 7 with (fail)
      obtain ⟨y, hy⟩ : ∃ y : Int, y = (x * 1664525 % 4294967296 + 1013904223) % 4294967296 := ⟨_, rfl⟩
      rw [← hy]
      have hy0 : 0 ≤ y ∧ y ≤ 4294967295 := by omega
      obtain ⟨q, hq⟩ : ∃ q : Nat, y / 256 = (q : Int) := ⟨(y / 256).toNat, by omega⟩
      have hq2 : q ≤ 100000000 := by omega
      have HQ := Lib.hid (HO.out q hq2)
      clear hy
      obtain ⟨hy1, hy2⟩ := hy0
      go_wp2_with (first | (go_at_call 129; refine (HQ.out _).mono ?_; rintro e w1 ⟨v, rfl, hvs, hx⟩; obtain ⟨A5, c5, w5, hrun, ho5, hb5⟩ := ap44_one w1 (HOL.out.ext hx) v w1.heap.size rfl (by omega) (Nat.le_trans HXR.out.lt hx.lt); have HO5 := Lib.hid ho5; have HB5 := Lib.hid hb5; have HVS := Lib.hid hvs; have HX5 := Lib.hid hx; clear ho5 hb5 hvs hx) | (at_builtin; refine wpList_append_run (s := .tmp 22) (x := .tmp 27) hrun rfl rfl rfl rfl rfl ?_))
      refine ⟨⟨i + 1, y, A5, c5, l ++ [v], by omega, rfl, rfl, hy1, hy2, by rw [List.length_append]; rfl, HO5.out, by rw [List.length_append, HLN.out]; rfl, fun u hu => ?_, Below.trans (HXR.out.trans HX5.out) HB5.out⟩, by simp only [toM]; omega⟩
      rcases List.mem_append.1 hu with h | h
      · exact HBD.out u h
      · obtain rfl : u = v := by simpa using h
        exact HVS.out
    · have hirI : ¬ (i : Int) < 1 + (r : Int) := by omega
      have hi1 : 1 ≤ i := by omega
      go_wp2
      go_ret
      exact ⟨A, c, l, rfl, HOL.out, by rw [HLN.out]; exact hi1, by have := HLN.out; omega, HBD.out, HXR.out⟩
end
end Go.Proofs.YtdbnddmncbjobaaGreatDoor