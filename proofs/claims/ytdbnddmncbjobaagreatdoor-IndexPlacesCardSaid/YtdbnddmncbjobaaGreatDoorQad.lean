/- The contract of label.Parse. -/
import Derived.Test.YtdbnddmncbjobaaGreatDoorQac
namespace Go.Proofs.YtdbnddmncbjobaaGreatDoor
section
open Go Go.RowKit

theorem next_end (W : World) (b : Nat) (hb : b = W.heap.size) (s : ByteArray) (pos : Nat) (ty : TypeId) (h : ¬ pos < s.size) :
    (Instr.next (.pointer (some ⟨b, 0, none⟩)) true ty).run Tryz.prog (W.alloc (.stringIter s pos)) = .ok (.tuple #[.bool false]) (W.alloc (.stringIter s pos)) := by
  subst hb; exact run_next_end W s pos ty h
theorem next_ascii (W : World) (b : Nat) (hb : b = W.heap.size) (s : ByteArray) (pos : Nat) (ty : TypeId) (h : pos < s.size) (ha : (s[pos]'h).toNat < 128) :
    (Instr.next (.pointer (some ⟨b, 0, none⟩)) true ty).run Tryz.prog (W.alloc (.stringIter s pos)) = .ok (.tuple #[.bool true, .int .i64 pos, .int .i32 (s[pos]'h).toNat]) (W.alloc (.stringIter s (pos + 1))) := by
  subst hb; exact run_next_ascii W s pos ty h ha
theorem next_any (W : World) (b : Nat) (hb : b = W.heap.size) (s : ByteArray) (pos : Nat) (ty : TypeId) (h : pos < s.size) :
    (Instr.next (.pointer (some ⟨b, 0, none⟩)) true ty).run Tryz.prog (W.alloc (.stringIter s pos)) = .ok (.tuple #[.bool true, .int .i64 pos, .int .i32 (Utf8.decode s pos).1]) (W.alloc (.stringIter s (pos + (Utf8.decode s pos).2))) := by
  subst hb; exact run_next_any W s pos ty h
/-- What a label's parse answers: number, suffix, error. -/
def labR (o : Option (Nat × Nat)) : Int × Int × Int :=
  match o with
  | some (n, s) => if labB n s then ((n : Int), (s : Int), 0) else (0, 0, 5)
  | none => (0, 0, 7)
def LPost (r : Int × Int × Int) (w : World) (e : Ending) (w' : World) : Prop := e = .returned (.tuple #[.agg #[.int .i64 r.1, .int .i64 r.2.1], .int .i64 r.2.2]) ∧ Ext w w'
theorem get_listC (s : ByteArray) (pos : Nat) (h : pos < s.size) : s.data.toList.drop pos = (s[pos]'h) :: s.data.toList.drop (pos + 1) := by
  have h' : pos < s.data.toList.length := by simpa using h
  rw [List.drop_eq_getElem_cons h']
  rfl
theorem drop_end (s : ByteArray) (pos : Nat) (h : ¬ pos < s.size) : s.data.toList.drop pos = [] := by
  apply List.drop_eq_nil_of_le
  have : s.data.toList.length = s.size := by simp
  omega
theorem labGo_A {n nu su : Nat} {c : UInt8} {r : List UInt8} (h1 : 48 ≤ c.toNat) (h2 : c.toNat ≤ 57) (h3 : n < 5) (h4 : 0 < n ∨ c.toNat ≠ 48) :
    labGo n 0 nu su (c :: r) = labGo (n + 1) 0 (10 * nu + (c.toNat - 48)) su r := by
  rw [labGo, if_pos ⟨dig_iff.2 ⟨h1, h2⟩, rfl, h3, h4.imp id (fun h e => h (by rw [e]; rfl))⟩]
theorem labGo_B {n m nu su : Nat} {c : UInt8} {r : List UInt8} (h1 : 97 ≤ c.toNat) (h2 : c.toNat ≤ 122) (h3 : 0 < n) (h4 : m < 4) :
    labGo n m nu su (c :: r) = labGo n (m + 1) nu (26 * su + (c.toNat - 97) + 1) r := by
  have hl := low_iff.2 ⟨h1, h2⟩
  rw [labGo, if_neg (fun h => by rw [dig_low hl] at h; cases h.1), if_pos ⟨hl, h3, h4⟩]
theorem labGo_C {n m nu su : Nat} {c : UInt8} {r : List UInt8} (h1 : ¬ (48 ≤ c.toNat ∧ c.toNat ≤ 57 ∧ m = 0 ∧ n < 5 ∧ (0 < n ∨ c.toNat ≠ 48))) (h2 : ¬ (97 ≤ c.toNat ∧ c.toNat ≤ 122 ∧ 0 < n ∧ m < 4)) :
    labGo n m nu su (c :: r) = none := by
  rw [labGo, if_neg, if_neg]
  · rintro ⟨a, b, d⟩; have := low_iff.1 a; exact h2 ⟨this.1, this.2, b, d⟩
  · rintro ⟨a, b, d, f⟩; have := dig_iff.1 a; exact h1 ⟨this.1, this.2, b, d, f.imp id (fun h e => h (ofNat_toNat e ▸ rfl))⟩

theorem iterPos_at (W : World) (b : Nat) (hb : b = W.heap.size) (s : ByteArray) (p : Nat) : (W.alloc (.stringIter s p)).iterPos b = p := by
  subst hb; exact World.iterPos_iter W s p
theorem lp_none {l : List UInt8} (h : labP l = none) : labR (labP l) = (0, 0, 7) := by rw [h]; rfl
theorem lp_end0 {l : List UInt8} {n m nu su : Nat} (hn : n = 0) (h : labGo n m nu su [] = labP l) : labR (labP l) = (0, 0, 7) := by
  rw [← h, labGo, if_pos hn]; rfl
theorem lp_bad {l : List UInt8} {n m nu su : Nat} (hn : ¬ n = 0) (hb : labB nu su = false) (h : labGo n m nu su [] = labP l) : labR (labP l) = (0, 0, 5) := by
  rw [← h, labGo, if_neg hn]; unfold labR; simp only [hb]; rfl
theorem lp_ok {l : List UInt8} {n m nu su : Nat} (hn : ¬ n = 0) (hb : labB nu su = true) (h : labGo n m nu su [] = labP l) : labR (labP l) = ((nu : Int), (su : Int), 0) := by
  rw [← h, labGo, if_neg hn]; unfold labR; simp only [hb]; rfl
theorem lpost {r : Int × Int × Int} {a b c : Int} {w w' : World} (h : r = (a, b, c)) (hx : Ext w w') : LPost r w (.returned (.tuple #[.agg #[.int .i64 a, .int .i64 b], .int .i64 c])) w' := by
  subst h; exact ⟨rfl, hx⟩
theorem labB_no {n s : Nat} (h : labB n s = false) : n < 1 ∨ 16384 < n ∨ 16384 < s := by
  simp [labB] at h; omega
theorem labB_yes {n s : Nat} (h : labB n s = true) : 1 ≤ n ∧ n ≤ 16384 ∧ s ≤ 16384 := by
  simp [labB] at h; omega
def LpRel (s : ByteArray) (w : World) (n m : Value) (w' : World) : Prop := ∃ (pos n' m' nu su : Nat), n = .int .i64 n' ∧ m = .int .i64 m' ∧ pos ≤ s.size ∧ n' ≤ 5 ∧ m' ≤ 4 ∧ pos = n' + m' ∧ (0 < m' → 0 < n') ∧ nu < 10 ^ n' ∧ su < 27 ^ m' ∧
  labGo n' m' nu su (s.data.toList.drop pos) = labP s.data.toList ∧
  w' = ((w.alloc (.cells #[.int .i64 0, .int .i64 0] 64)).alloc (.cells #[.int .i64 nu, .int .i64 su] 64)).alloc (.stringIter s pos)
set_option maxHeartbeats 4000000 in
set_option maxRecDepth 100000 in
theorem labp_any (s : ByteArray) (w : World) (hs : s.size ≤ 281474976710656) : Calls Tryz.prog 103 #[.string s] w (LPost (labR (labP s.data.toList)) w) := by
  go_enter Tryz.func103, Tryz.ntmps103
  go_wp2
  go_loopw [5, 6] (fun n m w' => LpRel s w n m w') (fun _ _ w' => s.size - w'.iterPos (w.heap.size + 2))
  case atStart => exact ⟨0, 0, 0, 0, 0, rfl, rfl, by omega, by omega, by omega, rfl, by omega, by omega, by omega, labGo_labP _, rfl⟩
  case round =>
    obtain ⟨pos, n, m, nu, su, rfl, rfl, hpos, hn5, hm4, hpn, hmn, hnu, hsu, hgo, rfl⟩ := hrel
    have HGO := Lib.hid hgo
    have HNU := Lib.hid hnu
    have HSU := Lib.hid hsu
    have HPN := Lib.hid hpn
    have HMN := Lib.hid hmn
    clear hgo hnu hsu hpn hmn
    by_cases hp : pos < s.size
    · by_cases ha : (s[pos]'hp).toNat < 128
      · have hnx := next_ascii ((w.alloc (.cells #[.int .i64 0, .int .i64 0] 64)).alloc (.cells #[.int .i64 nu, .int .i64 su] 64)) (w.heap.size + 1 + 1) (by simp) s pos
        have hnx := fun ty => hnx ty hp ha
        obtain ⟨c, hc⟩ : ∃ c : UInt8, c = s[pos]'hp := ⟨_, rfl⟩
        have hl := get_listC s pos hp
        rw [← hc] at hl hnx ha
        have HL := Lib.hid hl
        clear hl hc
        obtain ⟨k, hk⟩ : ∃ k : Nat, k = c.toNat := ⟨_, rfl⟩
        rw [← hk] at hnx ha
        have HK := Lib.hid hk
        clear hk
        have HNX := Lib.hid hnx
        clear hnx
        have hme : ∀ (x y : Int), s.size - (((w.alloc (.cells #[.int .i64 0, .int .i64 0] 64)).alloc (.cells #[.int .i64 x, .int .i64 y] 64)).alloc (.stringIter s (pos + 1))).iterPos (w.heap.size + 2) < s.size - (((w.alloc (.cells #[.int .i64 0, .int .i64 0] 64)).alloc (.cells #[.int .i64 nu, .int .i64 su] 64)).alloc (.stringIter s pos)).iterPos (w.heap.size + 2) := fun x y => by
          rw [iterPos_at _ _ (by simp), iterPos_at _ _ (by simp)]; omega
        have HME := Lib.hid hme
        clear hme
        by_cases hA : 48 ≤ k ∧ k ≤ 57 ∧ m = 0 ∧ n < 5 ∧ (0 < n ∨ k ≠ 48)
        · obtain ⟨h1, h2, rfl, h4, h5⟩ := hA
          have hnx := HNX.out
          have hpn0 : pos = n := HPN.out
          have hbn : nu < 10000 := Nat.lt_of_lt_of_le HNU.out (Nat.pow_le_pow_right (by decide) (show n ≤ 4 by omega))
          have fin : LpRel s w (.int .i64 ((n : Int) + 1)) (.int .i64 0) (((w.alloc (.cells #[.int .i64 0, .int .i64 0] 64)).alloc (.cells #[.int .i64 (10 * (nu : Int) + ((k : Int) - 48)), .int .i64 su] 64)).alloc (.stringIter s (pos + 1))) := by
            refine ⟨pos + 1, n + 1, 0, 10 * nu + (k - 48), su, rfl, rfl, by omega, by omega, by omega, by omega, by omega, ?_, HSU.out, ?_, by rw [show (10 * (nu : Int) + ((k : Int) - 48)) = ((10 * nu + (k - 48) : Nat) : Int) by omega]⟩
            · have := HNU.out; rw [Nat.pow_succ]; omega
            · rw [← HGO.out, HL.out, HK.out]
              exact (labGo_A (by rw [← HK.out]; exact h1) (by rw [← HK.out]; exact h2) h4 (by rw [← HK.out]; exact h5)).symm
          have FIN := Lib.hid fin
          clear fin
          rcases Nat.eq_zero_or_pos n with h6 | h6
          · obtain rfl : pos = 0 := by omega
            have hp0 : ((k : Int) == 48) = false := by simpa using (show ¬ (k : Int) = 48 by omega)
            clear hpn0 h5 h6
            go_wp2
            exact ⟨FIN.out, HME.out _ _⟩
          · have hp0 : (0 : Int) < (pos : Int) := by omega
            clear hpn0 h5
            go_wp2
            exact ⟨FIN.out, HME.out _ _⟩
        · by_cases hB : 97 ≤ k ∧ k ≤ 122 ∧ 0 < n ∧ m < 4
          · obtain ⟨h1, h2, h3, h4⟩ := hB
            have hnx := HNX.out
            have hbn : su < 19683 := Nat.lt_of_lt_of_le HSU.out (Nat.pow_le_pow_right (by decide) (show m ≤ 3 by omega))
            have fin : LpRel s w (.int .i64 n) (.int .i64 ((m : Int) + 1)) (((w.alloc (.cells #[.int .i64 0, .int .i64 0] 64)).alloc (.cells #[.int .i64 nu, .int .i64 (26 * (su : Int) + ((k : Int) - 97) + 1)] 64)).alloc (.stringIter s (pos + 1))) := by
              refine ⟨pos + 1, n, m + 1, nu, 26 * su + (k - 97) + 1, rfl, rfl, by omega, by omega, by omega, by have := HPN.out; omega, fun _ => h3, HNU.out, ?_, ?_, by rw [show (26 * (su : Int) + ((k : Int) - 97) + 1) = ((26 * su + (k - 97) + 1 : Nat) : Int) by omega]⟩
              · have := HSU.out; rw [Nat.pow_succ]; omega
              · rw [← HGO.out, HL.out, HK.out]
                exact (labGo_B (by rw [← HK.out]; exact h1) (by rw [← HK.out]; exact h2) h3 h4).symm
            have FIN := Lib.hid fin
            clear fin hA
            go_wp2
            exact ⟨FIN.out, HME.out _ _⟩
          · have hnx := HNX.out
            have hcl : labR (labP s.data.toList) = (0, 0, 7) := lp_none (by rw [← HGO.out, HL.out]; exact labGo_C (by rw [← HK.out]; exact hA) (by rw [← HK.out]; exact hB))
            have HCL := Lib.hid hcl
            have hpn0 := HPN.out
            have HA := Lib.hid (show (48 ≤ k ∧ k ≤ 57 ∧ m = 0 ∧ n < 5 ∧ (0 < pos ∨ k ≠ 48)) → False from fun ⟨a, b, d, f, g⟩ => hA ⟨a, b, d, f, g.imp (fun h => by omega) id⟩)
            have HB := Lib.hid hB
            clear hcl hA hB hpn0
            go_wp2
            all_goals first
              | (refine bodyPost_ret (v := .tuple #[.agg #[.int .i64 0, .int .i64 0], .int .i64 7]) (by simp [results, Tryz.results103, go_sem]) rfl ?_
                 exact lpost HCL.out (by repeat (first | exact Ext.refl _ | apply Ext.alloc)))
              | exact (HA.out ⟨by omega, by omega, by omega, by omega, .inl (by omega)⟩).elim
              | exact (HB.out ⟨by omega, by omega, by omega, by omega⟩).elim
              | (rename_i hq; exact (HA.out ⟨by omega, by omega, by omega, by omega, .inr (by simp at hq; omega)⟩).elim)
      · have hnx := fun ty => next_any ((w.alloc (.cells #[.int .i64 0, .int .i64 0] 64)).alloc (.cells #[.int .i64 nu, .int .i64 su] 64)) (w.heap.size + 1 + 1) (by simp) s pos ty hp
        have hdh := (decode_high s pos hp (by omega)).1
        have hcl : labR (labP s.data.toList) = (0, 0, 7) := lp_none (by rw [← HGO.out, get_listC s pos hp]; exact labGo_C (by omega) (by omega))
        have HCL := Lib.hid hcl
        obtain ⟨r, hr⟩ : ∃ r, r = Utf8.decode s pos := ⟨_, rfl⟩
        rw [← hr] at hnx hdh
        obtain ⟨r1, r2⟩ := r
        simp only at hdh hnx
        have hdi : (128 : Int) ≤ (r1 : Int) := by omega
        clear hcl hr hdh
        go_wp2
        all_goals first
          | (refine bodyPost_ret (v := .tuple #[.agg #[.int .i64 0, .int .i64 0], .int .i64 7]) (by simp [results, Tryz.results103, go_sem]) rfl ?_
             exact lpost HCL.out (by repeat (first | exact Ext.refl _ | apply Ext.alloc)))
    · have hnx := fun ty => next_end ((w.alloc (.cells #[.int .i64 0, .int .i64 0] 64)).alloc (.cells #[.int .i64 nu, .int .i64 su] 64)) (w.heap.size + 1 + 1) (by simp) s pos ty hp
      have hgo := HGO.out
      rw [drop_end s pos hp] at hgo
      have HG := Lib.hid hgo
      clear hgo
      by_cases hn0 : n = 0
      · subst hn0
        go_wp2
        refine bodyPost_ret (v := .tuple #[.agg #[.int .i64 0, .int .i64 0], .int .i64 7]) (by simp [results, Tryz.results103, go_sem]) rfl ?_
        exact lpost (lp_end0 rfl HG.out) (by repeat (first | exact Ext.refl _ | apply Ext.alloc))
      · have hz : ((n : Int) == 0) = false := by simpa using hn0
        cases hb : labB nu su with
        | false =>
          have HB := Lib.hid hb
          have hbad := labB_no hb
          have HBAD := Lib.hid hbad
          clear hb hbad
          go_wp2
          all_goals first
            | (exfalso; rcases HBAD.out with hq | hq | hq <;> omega)
            | (refine bodyPost_ret (v := .tuple #[.agg #[.int .i64 0, .int .i64 0], .int .i64 5]) (by simp [results, Tryz.results103, go_sem]) rfl ?_
               exact lpost (lp_bad hn0 HB.out HG.out) (by repeat (first | exact Ext.refl _ | apply Ext.alloc)))
        | true =>
          have HB := Lib.hid hb
          obtain ⟨hb1, hb2, hb3⟩ := labB_yes hb
          clear hb
          go_wp2
          all_goals first
            | (refine bodyPost_ret (v := .tuple #[.agg #[.int .i64 nu, .int .i64 su], .int .i64 0]) (by simp [results, Tryz.results103, go_sem]) rfl ?_
               exact lpost (lp_ok hn0 HB.out HG.out) (by repeat (first | exact Ext.refl _ | apply Ext.alloc)))
end
section
open Go Go.RowKit

/-- The captured variables 'rest' and 'ok' lie in the blocks n + 1 and n + 2. -/
structure PSt (w W : World) (r : ByteArray) (k : Bool) : Prop where
  ext : Ext w W
  size : w.heap.size + 3 ≤ W.heap.size
  rest : W.cell? ⟨w.heap.size + 1, 0, none⟩ = some (.string r)
  ok : W.cell? ⟨w.heap.size + 2, 0, none⟩ = some (.bool k)
  frest : W.frozen? ⟨w.heap.size + 1, 0, none⟩ = false
  fok : W.frozen? ⟨w.heap.size + 2, 0, none⟩ = false
/-- All blocks but those two are as they were. -/
structure Keep (w W W' : World) : Prop where
  size : W.heap.size ≤ W'.heap.size
  cell : ∀ b o, b ≠ w.heap.size + 1 → b ≠ w.heap.size + 2 → b < W.heap.size → W'.cell? ⟨b, o, none⟩ = W.cell? ⟨b, o, none⟩
  frozen : ∀ b o, b ≠ w.heap.size + 1 → b ≠ w.heap.size + 2 → b < W.heap.size → W'.frozen? ⟨b, o, none⟩ = W.frozen? ⟨b, o, none⟩
theorem Keep.trans {w a b c : World} (h : Keep w a b) (k : Keep w b c) : Keep w a c :=
  ⟨Nat.le_trans h.size k.size, fun x o h1 h2 h3 => (k.cell x o h1 h2 (Nat.lt_of_lt_of_le h3 h.size)).trans (h.cell x o h1 h2 h3), fun x o h1 h2 h3 => (k.frozen x o h1 h2 (Nat.lt_of_lt_of_le h3 h.size)).trans (h.frozen x o h1 h2 h3)⟩
theorem Keep.ext {w a b : World} (h : Ext a b) : Keep w a b := by
  obtain ⟨q, p⟩ := h.cells
  exact ⟨h.lt, fun x o _ _ h3 => q x o h3, fun x o _ _ h3 => p x o h3⟩
theorem PSt.mono {w W W' : World} {r : ByteArray} {k : Bool} (h : PSt w W r k) (hx : Ext W W') : PSt w W' r k := by
  obtain ⟨q, p⟩ := hx.cells
  have hs := h.size
  exact ⟨h.ext.trans hx, Nat.le_trans h.size hx.lt, by rw [q _ _ (by omega)]; exact h.rest, by rw [q _ _ (by omega)]; exact h.ok, by rw [p _ _ (by omega)]; exact h.frest, by rw [p _ _ (by omega)]; exact h.fok⟩
theorem PSt.setOk {w W : World} {r : ByteArray} {k : Bool} (h : PSt w W r k) (k' : Bool) : PSt w (W.setCell ⟨w.heap.size + 2, 0, none⟩ (.bool k')) r k' :=
  ⟨h.ext.setCell (by show w.heap.size ≤ w.heap.size + 2; omega) _, by simpa using h.size, by rw [World.cell?_setCell_other _ _ _ _ (by simp)]; exact h.rest, World.cell?_setCell_same _ _ _ h.ok, by rw [World.frozen?_setCell]; exact h.frest, by rw [World.frozen?_setCell]; exact h.fok⟩
theorem PSt.setRest {w W : World} {r : ByteArray} {k : Bool} (h : PSt w W r k) (r' : ByteArray) : PSt w (W.setCell ⟨w.heap.size + 1, 0, none⟩ (.string r')) r' k :=
  ⟨h.ext.setCell (by show w.heap.size ≤ w.heap.size + 1; omega) _, by simpa using h.size, World.cell?_setCell_same _ _ _ h.rest, by rw [World.cell?_setCell_other _ _ _ _ (by simp)]; exact h.ok, by rw [World.frozen?_setCell]; exact h.frest, by rw [World.frozen?_setCell]; exact h.fok⟩
theorem Keep.setOk {w a W : World} (h : Keep w a W) (v : Value) : Keep w a (W.setCell ⟨w.heap.size + 2, 0, none⟩ v) :=
  ⟨by simpa using h.size, fun x o h1 h2 h3 => by rw [World.cell?_setCell_other _ _ _ _ (by intro e; injection e with e1; exact h2 e1.symm)]; exact h.cell x o h1 h2 h3, fun x o h1 h2 h3 => by rw [World.frozen?_setCell]; exact h.frozen x o h1 h2 h3⟩
theorem Keep.setRest {w a W : World} (h : Keep w a W) (v : Value) : Keep w a (W.setCell ⟨w.heap.size + 1, 0, none⟩ v) :=
  ⟨by simpa using h.size, fun x o h1 h2 h3 => by rw [World.cell?_setCell_other _ _ _ _ (by intro e; injection e with e1; exact h1 e1.symm)]; exact h.cell x o h1 h2 h3, fun x o h1 h2 h3 => by rw [World.frozen?_setCell]; exact h.frozen x o h1 h2 h3⟩

def PartPost (w W : World) (a : List UInt8) (r : ByteArray) (k : Bool) (e : Ending) (W' : World) : Prop := e = .returned (.string ⟨a.toArray⟩) ∧ PSt w W' r k ∧ Keep w W W'
set_option maxRecDepth 100000 in
theorem part_any (w W : World) (r : ByteArray) (k : Bool) (a b : List UInt8) (f : Bool) (hr : r.size ≤ 281474976710656) (hc : CutIs r a b f) (hS : PSt w W r k) :
    Calls Tryz.prog 98 #[.pointer (some ⟨w.heap.size + 1, 0, none⟩), .pointer (some ⟨w.heap.size + 2, 0, none⟩)] W (PartPost w W a ⟨b.toArray⟩ (k && f)) := by
  have HC := Lib.hid (fun X => cut1_any r hr X a b f hc)
  have HS := Lib.hid hS
  have c1 := hS.rest
  clear hc
  cases k
  · go_enter Tryz.func98, Tryz.ntmps98
    go_wp2_with (first | (go_at_call 99; refine (HC.out _).mono ?_; rintro e w1 ⟨rfl, hx⟩; have hS1 := HS.out.mono hx; have c2 := hS1.rest; have c3 := hS1.ok; have c4 := hS1.frest; have c5 := hS1.fok))
    go_ret
    exact ⟨rfl, (hS1.setRest _).setOk _, ((Keep.ext hx).setRest _).setOk _⟩
  · go_enter Tryz.func98, Tryz.ntmps98
    go_wp2_with (first | (go_at_call 99; refine (HC.out _).mono ?_; rintro e w1 ⟨rfl, hx⟩; have hS1 := HS.out.mono hx; have c2 := hS1.rest; have c3 := hS1.ok; have c4 := hS1.frest; have c5 := hS1.fok))
    go_ret
    exact ⟨rfl, (hS1.setRest _).setOk _, ((Keep.ext hx).setRest _).setOk _⟩
end
section
open Go Go.RowKit

/-- What the library's parsers read, in every world that grows from w: the table of powers, the two sentinels. -/
structure Env (w : World) : Prop where
  tab : Tab w
  syn : ∃ tp p, ∀ W, Ext w W → W.var? Tryz.prog "strconv.ErrSyntax" = some #[.iface tp p]
  rng : ∃ tp p, ∀ W, Ext w W → W.var? Tryz.prog "strconv.ErrRange" = some #[.iface tp p]
theorem Env.ext {w w' : World} (h : Env w) (hx : Ext w w') : Env w' :=
  ⟨h.tab.ext hx, h.syn.imp fun _ h => h.imp fun _ h W hW => h W (hx.trans hW), h.rng.imp fun _ h => h.imp fun _ h W hW => h W (hx.trans hW)⟩
theorem atoi_bounds {l : List UInt8} {v : Int} (h : Lib.atoiAll l = .ok v) : -9223372036854775808 ≤ v ∧ v ≤ 9223372036854775807 := by
  unfold Lib.atoiAll at h
  cases l with
  | nil => cases h
  | cons c r =>
    simp only at h
    split at h
    · cases h
    · cases h
    · split at h
      · cases h
      · split at h
        · cases h
        · injection h with h
          subst h
          split <;> omega
theorem atoi_ok_any (s : ByteArray) (v : Int) (X : World) (hs : s.size ≤ 281474976710656) (h : Lib.atoiAll s.data.toList = .ok v) :
    Calls Tryz.prog 101 #[.string s] X fun e X' => e = .returned (.tuple #[.int .i64 v, .nilIface]) ∧ Ext X X' := by
  refine (Tryz.strconv_Atoi_ok s (by omega) v h X).mono ?_
  rintro e X' ⟨rfl, h1 | ⟨t, h1⟩⟩
  · subst h1; exact ⟨rfl, Ext.refl _⟩
  · subst h1; exact ⟨rfl, Lib.bytesWorld_below X 5 t⟩
def AtBad (X : World) (e : Ending) (X' : World) : Prop := ∃ (v : Int) (N : Nat), e = .returned (.tuple #[.int .i64 v, .iface 201 (.pointer (some ⟨N, 0, none⟩))]) ∧ Ext X X'
theorem atoi_bad_any (s : ByteArray) (X : World) (hs : s.size ≤ 281474976710656) (hE : Env X) (h : ∀ v, Lib.atoiAll s.data.toList ≠ .ok v) :
    Calls Tryz.prog 101 #[.string s] X (AtBad X) := by
  rcases ha : Lib.atoiAll s.data.toList with v | _ | _
  · exact absurd ha (h v)
  · obtain ⟨tp, p, hv⟩ := hE.syn
    refine (Any.strconv_Atoi_syntax_var Tryz.laysC172 s hs ha tp p X (hv X (Ext.refl _))).mono ?_
    rintro e X' ⟨N, rfl, _, _, hb⟩
    exact ⟨_, N, rfl, hb⟩
  · obtain ⟨tp, p, hv⟩ := hE.rng
    refine (Tryz.strconv_Atoi_range_var s hs ha tp p X (hv X (Ext.refl _))).mono ?_
    rintro e X' ⟨N, rfl, _, _, hb⟩
    exact ⟨_, N, rfl, hb⟩
theorem itoa_int (v : Int) (S : ByteArray) (X : World) (h0 : -9223372036854775808 ≤ v) (h1 : v ≤ 9223372036854775807) (hS : S = ⟨(Lib.itoa v).toArray⟩) (htab : Tab X) :
    Calls Tryz.prog 102 #[.int .i64 v] X fun e X' => e = .returned (.string S) ∧ Ext X X' := by
  refine (Tryz.strconv_Itoa v h0 h1 X (htab X (Ext.refl X))).mono ?_
  rintro e w2 ⟨rfl, k9, os, rfl⟩
  exact ⟨by rw [hS], Lib.below_grow _ _ (Nat.le_refl _) k9 os⟩
def NumPost (w W : World) (s : List UInt8) (r : ByteArray) (k : Bool) (e : Ending) (W' : World) : Prop :=
  ∃ v : Int, e = .returned (.int .i64 v) ∧ PSt w W' r (k && (numP s).isSome) ∧ Keep w W W' ∧ ∀ x, numP s = some x → v = x
theorem num_none {s : List UInt8} (h : ∀ x, numP s ≠ some x) : numP s = none := by
  cases h1 : numP s with
  | none => rfl
  | some x => exact absurd h1 (h x)
theorem numpost_no {w W W' : World} {s : List UInt8} {r : ByteArray} {v : Int} {k : Bool} (h : k = false ∨ numP s = none) (hS : PSt w W' r false) (hK : Keep w W W') (hv : ∀ x, numP s = some x → v = x) : NumPost w W s r k (.returned (.int .i64 v)) W' := by
  refine ⟨v, rfl, ?_, hK, hv⟩
  have e : (k && (numP s).isSome) = false := by rcases h with h | h <;> simp [h]
  rw [e]; exact hS
theorem numpost_yes {w W W' : World} {s : List UInt8} {r : ByteArray} {v : Int} (h : numP s = some v.toNat) (hS : PSt w W' r true) (hK : Keep w W W') (h0 : 0 ≤ v) : NumPost w W s r true (.returned (.int .i64 v)) W' := by
  refine ⟨v, rfl, ?_, hK, fun x hx => ?_⟩
  · rw [h]; exact hS
  · rw [h] at hx; injection hx with hx; omega

set_option maxHeartbeats 4000000 in
set_option maxRecDepth 100000 in
theorem num_any (w W : World) (s r : ByteArray) (k : Bool) (hs : s.size ≤ 281474976710656) (hE : Env W) (hS : PSt w W r k) :
    Calls Tryz.prog 100 #[.string s, .pointer (some ⟨w.heap.size + 2, 0, none⟩)] W (NumPost w W s.data.toList r k) := by
  have HS := Lib.hid hS
  have HE := Lib.hid hE
  by_cases hok : ∃ v, Lib.atoiAll s.data.toList = .ok v
  · obtain ⟨v, ha⟩ := hok
    have hb := atoi_bounds ha
    have HA := Lib.hid (fun X => atoi_ok_any s v X hs ha)
    have hv : ∀ x, numP s.data.toList = some x → v = x := fun x hx => by
      have := atoi_num hx
      rw [ha] at this
      injection this
    have HV := Lib.hid hv
    clear hv hS hE
    cases k with
    | false =>
      go_enter Tryz.func100, Tryz.ntmps100
      go_wp2_with (first | (go_at_call 101; refine (HA.out _).mono ?_; rintro e w1 ⟨rfl, hx⟩; have hS1 := HS.out.mono hx; have c3 := hS1.ok; have c5 := hS1.fok))
      go_ret
      exact numpost_no (.inl rfl) (hS1.setOk _) ((Keep.ext hx).setOk _) HV.out
    | true =>
      by_cases h3 : s.size ≤ 3
      · obtain ⟨S, hSS⟩ : ∃ S : ByteArray, S = ⟨(Lib.itoa v).toArray⟩ := ⟨_, rfl⟩
        have HI := Lib.hid (fun X (hX : Ext W X) => itoa_int v S X hb.1 hb.2 hSS (HE.out.ext hX).tab)
        have hl3 : s.data.toList.length ≤ 3 := by simpa using h3
        by_cases hEq : S = s
        · subst hEq
          have hit : Lib.itoa v = S.data.toList := by rw [hSS]
          clear hSS
          by_cases hp : 0 ≤ v
          · have hn := numP_of hl3 hit hp
            have HN := Lib.hid hn
            clear hn hit ha
            go_enter Tryz.func100, Tryz.ntmps100
            go_wp2_with (first | (go_at_call 101; refine (HA.out _).mono ?_; rintro e w1 ⟨rfl, hx⟩; have hS1 := HS.out.mono hx; have c3 := hS1.ok; have c5 := hS1.fok) | (go_at_call 102; refine (HI.out _ hx).mono ?_; rintro e w2 ⟨rfl, hx2⟩; have hS2 := hS1.mono hx2; have c6 := hS2.ok; have c7 := hS2.fok))
            go_ret
            exact numpost_yes HN.out (hS2.setOk _) (((Keep.ext hx).trans (Keep.ext hx2)).setOk _) hp
          · have hn : numP S.data.toList = none := num_none fun x hx => hp (by have := HV.out x hx; omega)
            have HN := Lib.hid hn
            have hpd : decide (0 ≤ v) = false := decide_eq_false hp
            clear hn hit ha hp
            go_enter Tryz.func100, Tryz.ntmps100
            go_wp2_with (first | (go_at_call 101; refine (HA.out _).mono ?_; rintro e w1 ⟨rfl, hx⟩; have hS1 := HS.out.mono hx; have c3 := hS1.ok; have c5 := hS1.fok) | (go_at_call 102; refine (HI.out _ hx).mono ?_; rintro e w2 ⟨rfl, hx2⟩; have hS2 := hS1.mono hx2; have c6 := hS2.ok; have c7 := hS2.fok))
            go_ret
            exact numpost_no (.inr HN.out) (hS2.setOk _) (((Keep.ext hx).trans (Keep.ext hx2)).setOk _) HV.out
        · have hn : numP s.data.toList = none := num_none fun x hx => hEq (by
            have h1 := (numP_some hx).1
            have h2 := HV.out x hx
            rw [hSS, h2, itoa_nat, h1])
          have HN := Lib.hid hn
          have hne : (S.toList == s.toList) = false := by
            rw [beq_eq_false_iff_ne]
            intro e
            exact hEq (by rw [ByteArray.toList_eq, ByteArray.toList_eq] at e; exact ByteArray.ext (Array.toList_inj.1 e))
          clear hn hSS ha
          go_enter Tryz.func100, Tryz.ntmps100
          go_wp2_with (first | (go_at_call 101; refine (HA.out _).mono ?_; rintro e w1 ⟨rfl, hx⟩; have hS1 := HS.out.mono hx; have c3 := hS1.ok; have c5 := hS1.fok) | (go_at_call 102; refine (HI.out _ hx).mono ?_; rintro e w2 ⟨rfl, hx2⟩; have hS2 := hS1.mono hx2; have c6 := hS2.ok; have c7 := hS2.fok))
          go_ret
          exact numpost_no (.inr HN.out) (hS2.setOk _) (((Keep.ext hx).trans (Keep.ext hx2)).setOk _) HV.out
      · have hn : numP s.data.toList = none := num_none fun x hx => h3 (by have := (numP_some hx).2.2.1; simpa using this)
        have HN := Lib.hid hn
        clear hn ha
        go_enter Tryz.func100, Tryz.ntmps100
        go_wp2_with (first | (go_at_call 101; refine (HA.out _).mono ?_; rintro e w1 ⟨rfl, hx⟩; have hS1 := HS.out.mono hx; have c3 := hS1.ok; have c5 := hS1.fok))
        go_ret
        exact numpost_no (.inr HN.out) (hS1.setOk _) ((Keep.ext hx).setOk _) HV.out
  · have hn : numP s.data.toList = none := num_none fun x hx => hok ⟨x, atoi_num hx⟩
    have HN := Lib.hid hn
    have HA := Lib.hid (fun X (hX : Ext W X) => atoi_bad_any s X hs (HE.out.ext hX) (fun v h => hok ⟨v, h⟩))
    clear hn hok hS hE
    cases k with
    | false =>
      go_enter Tryz.func100, Tryz.ntmps100
      go_wp2_with (first | (go_at_call 101; refine (HA.out _ (Ext.refl _)).mono ?_; rintro e w1 ⟨v, N, rfl, hx⟩; have hS1 := HS.out.mono hx; have c3 := hS1.ok; have c5 := hS1.fok))
      go_ret
      exact numpost_no (.inl rfl) (hS1.setOk _) ((Keep.ext hx).setOk _) (fun x hx => by rw [HN.out] at hx; cases hx)
    | true =>
      go_enter Tryz.func100, Tryz.ntmps100
      go_wp2_with (first | (go_at_call 101; refine (HA.out _ (Ext.refl _)).mono ?_; rintro e w1 ⟨v, N, rfl, hx⟩; have hS1 := HS.out.mono hx; have c3 := hS1.ok; have c5 := hS1.fok))
      go_ret
      exact numpost_no (.inr HN.out) (hS1.setOk _) ((Keep.ext hx).setOk _) (fun x hx => by rw [HN.out] at hx; cases hx)
end
end Go.Proofs.YtdbnddmncbjobaaGreatDoor