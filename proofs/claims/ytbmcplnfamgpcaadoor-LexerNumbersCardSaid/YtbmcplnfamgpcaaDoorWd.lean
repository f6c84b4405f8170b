/- The contracts of 'word' and 'symbol'. -/
import Derived.Test.YtbmcplnfamgpcaaDoorFst
import Derived.Test.YtbmcplnfamgpcaaDoorShelf
namespace Go.Proofs.YtbmcplnfamgpcaaDoor
open Go Go.RowKit

def wordT (l : List UInt8) : T1 := if 12 < twn wch l then .err 2 else .ok 1 (twn wch l) 0
def numT (l : List UInt8) : T1 :=
  if 1 < twn dig l ∧ l.head? = some 48 then .err 20
  else if 2147483647 < dval 0 (l.takeWhile dig) then .err 5 else .ok 2 (twn dig l) (dval 0 (l.takeWhile dig))
def dayT (l : List UInt8) : T1 := if dated l then (match dayP ((l.drop 1).take 10) with | some d => .ok 3 11 d | none => .err 5) else .err 20
def symT (l : List UInt8) : T1 := if symN l = 0 then .err 20 else .ok 4 (symN l) 0
theorem tok1_word {c : UInt8} {r : List UInt8} (h : low c = true) : tok1 (c :: r) = wordT (c :: r) := by
  rw [tok1_cons, if_pos h]; rfl
theorem tok1_num {c : UInt8} {r : List UInt8} (h : low c = false) (h1 : dig c = true) : tok1 (c :: r) = numT (c :: r) := by
  rw [tok1_cons, if_neg (by rw [h]; decide), if_pos h1, numT, List.head?_cons]
  simp only [Option.some.injEq, twn]
theorem tok1_day {c : UInt8} {r : List UInt8} (h : low c = false) (h1 : dig c = false) (h2 : c = 64) : tok1 (c :: r) = dayT (c :: r) := by
  rw [tok1_cons, if_neg (by rw [h]; decide), if_neg (by rw [h1]; decide), if_pos h2]; rfl
theorem tok1_sym {c : UInt8} {r : List UInt8} (h : low c = false) (h1 : dig c = false) (h2 : c ≠ 64) : tok1 (c :: r) = symT (c :: r) := by
  rw [tok1_cons, if_neg (by rw [h]; decide), if_neg (by rw [h1]; decide), if_neg h2]; rfl
/-- What a token's reader answers. -/
def TPost (t : T1) (s : ByteArray) (w : World) (e : Ending) (w' : World) : Prop :=
  match t with
  | .err x => e = .returned (.tuple #[.agg #[.int .i64 0, .int .i64 0, .string ⟨#[]⟩, .int .i64 0], .int .i64 x]) ∧ Ext w w'
  | .ok k n v => (∃ S : ByteArray, S.data.toList = s.data.toList.take n ∧ e = .returned (.tuple #[.agg #[.int .i64 k, .int .i64 0, .string S, .int .i64 v], .int .i64 0])) ∧ Ext w w'
theorem extract_take (s : ByteArray) (n : Nat) : (s.extract 0 n).data.toList = s.data.toList.take n := by
  rw [ByteArray.data_extract, Array.toList_extract]; simp [List.extract]
theorem twn_size (p : UInt8 → Bool) (s : ByteArray) : twn p s.data.toList ≤ s.size := by
  rw [← list_size]; exact (List.takeWhile_sublist _).length_le
theorem tpost_err {t : T1} {x y : Int} {s : ByteArray} {w w' : World} (h : t = .err x) (hy : y = x) (hx : Ext w w') :
    TPost t s w (.returned (.tuple #[.agg #[.int .i64 0, .int .i64 0, .string ⟨#[]⟩, .int .i64 0], .int .i64 y])) w' := by
  subst h; subst hy; exact ⟨rfl, hx⟩
theorem tpost_ok {t : T1} {k v k' v' : Int} {n : Nat} {s S : ByteArray} {w w' : World} (h : t = .ok k n v) (hk : k' = k) (hv : v' = v) (hS : S.data.toList = s.data.toList.take n) (hx : Ext w w') :
    TPost t s w (.returned (.tuple #[.agg #[.int .i64 k', .int .i64 0, .string S, .int .i64 v'], .int .i64 0])) w' := by
  subst h; subst hk; subst hv; exact ⟨⟨S, hS, rfl⟩, hx⟩
/-- A token in a block of its own, not frozen. -/
structure TBox (W : World) (b : Nat) (k a : Int) (S : ByteArray) (v : Int) : Prop where
  lt : b < W.heap.size
  c0 : W.cell? ⟨b, 0, none⟩ = some (.int .i64 k)
  c1 : W.cell? ⟨b, 1, none⟩ = some (.int .i64 a)
  c2 : W.cell? ⟨b, 2, none⟩ = some (.string S)
  c3 : W.cell? ⟨b, 3, none⟩ = some (.int .i64 v)
  f0 : W.frozen? ⟨b, 0, none⟩ = false
  f1 : W.frozen? ⟨b, 1, none⟩ = false
  f2 : W.frozen? ⟨b, 2, none⟩ = false
  f3 : W.frozen? ⟨b, 3, none⟩ = false
theorem TBox.ext {W W' : World} {b : Nat} {k a v : Int} {S : ByteArray} (h : TBox W b k a S v) (hx : Ext W W') : TBox W' b k a S v := by
  obtain ⟨q, p⟩ := hx.cells
  exact ⟨Nat.lt_of_lt_of_le h.lt hx.lt, by rw [q _ _ h.lt]; exact h.c0, by rw [q _ _ h.lt]; exact h.c1, by rw [q _ _ h.lt]; exact h.c2, by rw [q _ _ h.lt]; exact h.c3,
    by rw [p _ _ h.lt]; exact h.f0, by rw [p _ _ h.lt]; exact h.f1, by rw [p _ _ h.lt]; exact h.f2, by rw [p _ _ h.lt]; exact h.f3⟩
theorem TBox.new (W : World) (k a v : Int) (S : ByteArray) (t : TypeId) : TBox (W.alloc (.cells #[.int .i64 k, .int .i64 a, .string S, .int .i64 v] t)) W.heap.size k a S v :=
  ⟨by simp, by go_simp, by go_simp, by go_simp, by go_simp, by go_simp, by go_simp, by go_simp, by go_simp⟩
theorem Ext.store4 {w W : World} {b : Nat} (h : Ext w W) (hb : w.heap.size ≤ b) (u0 u1 u2 u3 : Value) :
    Ext w ((((W.setCell ⟨b, 0, none⟩ u0).setCell ⟨b, 1, none⟩ u1).setCell ⟨b, 2, none⟩ u2).setCell ⟨b, 3, none⟩ u3) :=
  (((h.setCell (p := ⟨b, 0, none⟩) hb u0).setCell (p := ⟨b, 1, none⟩) hb u1).setCell (p := ⟨b, 2, none⟩) hb u2).setCell (p := ⟨b, 3, none⟩) hb u3
set_option maxHeartbeats 4000000 in
set_option maxRecDepth 100000 in
theorem word_any (s : ByteArray) (w : World) (hs : s.size ≤ 281474976710656) : Calls Tryd.prog 31 #[.string s] w (TPost (wordT s.data.toList) s w) := by
  have HF := Lib.hid (fun X => first47_any s X hs)
  have hz := twn_size wch s
  obtain ⟨n, hn⟩ : ∃ n, n = twn wch s.data.toList := ⟨_, rfl⟩
  rw [← hn] at HF hz
  have HN := Lib.hid hn
  clear hn
  by_cases h12 : 12 < n
  · have h12' : (12 : Int) < (n : Int) := by omega
    have hT : wordT s.data.toList = .err 2 := by rw [wordT, ← HN.out, if_pos h12]
    have HT := Lib.hid hT
    clear hT HN
    go_enter Tryd.func31, Tryd.ntmps31
    go_wp2_with (first | (go_at_call 28; refine (HF.out _).mono ?_; rintro e w1 ⟨rfl, hx⟩; have q := (TBox.new w 0 0 0 ⟨#[]⟩ 36).ext hx; have hx0 := ((Ext.refl w).alloc _).trans hx; obtain ⟨q0, q1, q2, q3, q4, q5, q6, q7, q8⟩ := q))
    refine bodyPost_ret (v := .tuple #[.agg #[.int .i64 0, .int .i64 0, .string ⟨#[]⟩, .int .i64 0], .int .i64 2]) (by simp [results, Tryd.results31, go_sem, *]) rfl ?_
    exact tpost_err HT.out rfl (hx0.store4 (Nat.le_refl _) _ _ _ _)
  · have h12' : ¬ (12 : Int) < (n : Int) := by omega
    have hT : wordT s.data.toList = .ok 1 n 0 := by rw [wordT, ← HN.out, if_neg h12]
    have HT := Lib.hid hT
    clear hT HN
    go_enter Tryd.func31, Tryd.ntmps31
    go_wp2_with (first | (go_at_call 28; refine (HF.out _).mono ?_; rintro e w1 ⟨rfl, hx⟩; have q := (TBox.new w 0 0 0 ⟨#[]⟩ 36).ext hx; have hx0 := ((Ext.refl w).alloc _).trans hx; obtain ⟨q0, q1, q2, q3, q4, q5, q6, q7, q8⟩ := q))
    refine bodyPost_ret (v := .tuple #[.agg #[.int .i64 1, .int .i64 0, .string (s.extract 0 n), .int .i64 0], .int .i64 0]) (by simp [results, Tryd.results31, go_sem, *]) rfl ?_
    exact tpost_ok HT.out rfl rfl (extract_take _ _) (hx0.store4 (Nat.le_refl _) _ _ _ _)
end Go.Proofs.YtbmcplnfamgpcaaDoor
