/- The contract of label.Parse. -/
import Derived.Test.YtbfogchdeijedaaDoorCut
import Derived.WalkLawsBesides
namespace Go.Proofs.YtbfogchdeijedaaDoor
open Go Go.RowKit

theorem next_end (W : World) (b : Nat) (hb : b = W.heap.size) (s : ByteArray) (pos : Nat) (ty : TypeId) (h : ¬ pos < s.size) :
    (Instr.next (.pointer (some ⟨b, 0, none⟩)) true ty).run Tryd.prog (W.alloc (.stringIter s pos)) = .ok (.tuple #[.bool false]) (W.alloc (.stringIter s pos)) := by
  subst hb; exact run_next_end W s pos ty h
theorem next_ascii (W : World) (b : Nat) (hb : b = W.heap.size) (s : ByteArray) (pos : Nat) (ty : TypeId) (h : pos < s.size) (ha : (s[pos]'h).toNat < 128) :
    (Instr.next (.pointer (some ⟨b, 0, none⟩)) true ty).run Tryd.prog (W.alloc (.stringIter s pos)) = .ok (.tuple #[.bool true, .int .i64 pos, .int .i32 (s[pos]'h).toNat]) (W.alloc (.stringIter s (pos + 1))) := by
  subst hb; exact run_next_ascii W s pos ty h ha
theorem next_any (W : World) (b : Nat) (hb : b = W.heap.size) (s : ByteArray) (pos : Nat) (ty : TypeId) (h : pos < s.size) :
    (Instr.next (.pointer (some ⟨b, 0, none⟩)) true ty).run Tryd.prog (W.alloc (.stringIter s pos)) = .ok (.tuple #[.bool true, .int .i64 pos, .int .i32 (Utf8.decode s pos).1]) (W.alloc (.stringIter s (pos + (Utf8.decode s pos).2))) := by
  subst hb; exact run_next_any W s pos ty h
/-- What a label's parse answers: number, suffix, error. -/
def labR (o : Option (Nat × Nat)) : Int × Int × Int :=
  match o with
  | some (n, s) => if labB n s then ((n : Int), (s : Int), 0) else (0, 0, 5)
  | none => (0, 0, 7)
def LPost (r : Int × Int × Int) (w : World) (e : Ending) (w' : World) : Prop := e = .returned (.tuple #[.agg #[.int .i64 r.1, .int .i64 r.2.1], .int .i64 r.2.2]) ∧ Ext w w'
theorem get_list (s : ByteArray) (pos : Nat) (h : pos < s.size) : s.data.toList.drop pos = (s[pos]'h) :: s.data.toList.drop (pos + 1) := by
  have h' : pos < s.data.toList.length := by simpa using h
  rw [List.drop_eq_getElem_cons h']
  rfl
theorem drop_end (s : ByteArray) (pos : Nat) (h : ¬ pos < s.size) : s.data.toList.drop pos = [] := by
  apply List.drop_eq_nil_of_le
  have : s.data.toList.length = s.size := by simp
  omega
theorem labGo_A {n nu su : Nat} {c : UInt8} {r : List UInt8} (h1 : 48 ≤ c.toNat) (h2 : c.toNat ≤ 57) (h3 : n < 5) (h4 : 0 < n ∨ c.toNat ≠ 48) :
    labGo n 0 nu su (c :: r) = labGo (n + 1) 0 (10 * nu + (c.toNat - 48)) su r := by
  rw [labGo, if_pos ⟨dig_iff.2 ⟨h1, h2⟩, rfl, h3, h4.imp id (fun h e => h (by rw [e]; rfl))⟩]
theorem labGo_B {n m nu su : Nat} {c : UInt8} {r : List UInt8} (h1 : 97 ≤ c.toNat) (h2 : c.toNat ≤ 122) (h3 : 0 < n) (h4 : m < 4) :
    labGo n m nu su (c :: r) = labGo n (m + 1) nu (26 * su + (c.toNat - 97) + 1) r := by
  have hl := low_iff.2 ⟨h1, h2⟩
  rw [labGo, if_neg (fun h => by rw [dig_low hl] at h; cases h.1), if_pos ⟨hl, h3, h4⟩]
theorem labGo_C {n m nu su : Nat} {c : UInt8} {r : List UInt8} (h1 : ¬ (48 ≤ c.toNat ∧ c.toNat ≤ 57 ∧ m = 0 ∧ n < 5 ∧ (0 < n ∨ c.toNat ≠ 48))) (h2 : ¬ (97 ≤ c.toNat ∧ c.toNat ≤ 122 ∧ 0 < n ∧ m < 4)) :
    labGo n m nu su (c :: r) = none := by
  rw [labGo, if_neg, if_neg]
  · rintro ⟨a, b, d⟩; have := low_iff.1 a; exact h2 ⟨this.1, this.2, b, d⟩
  · rintro ⟨a, b, d, f⟩; have := dig_iff.1 a; exact h1 ⟨this.1, this.2, b, d, f.imp id (fun h e => h (ofNat_toNat e ▸ rfl))⟩

theorem iterPos_at (W : World) (b : Nat) (hb : b = W.heap.size) (s : ByteArray) (p : Nat) : (W.alloc (.stringIter s p)).iterPos b = p := by
  subst hb; exact World.iterPos_iter W s p
theorem lp_none {l : List UInt8} (h : labP l = none) : labR (labP l) = (0, 0, 7) := by rw [h]; rfl
theorem lp_end0 {l : List UInt8} {n m nu su : Nat} (hn : n = 0) (h : labGo n m nu su [] = labP l) : labR (labP l) = (0, 0, 7) := by
  rw [← h, labGo, if_pos hn]; rfl
theorem lp_bad {l : List UInt8} {n m nu su : Nat} (hn : ¬ n = 0) (hb : labB nu su = false) (h : labGo n m nu su [] = labP l) : labR (labP l) = (0, 0, 5) := by
  rw [← h, labGo, if_neg hn]; unfold labR; simp only [hb]; rfl
theorem lp_ok {l : List UInt8} {n m nu su : Nat} (hn : ¬ n = 0) (hb : labB nu su = true) (h : labGo n m nu su [] = labP l) : labR (labP l) = ((nu : Int), (su : Int), 0) := by
  rw [← h, labGo, if_neg hn]; unfold labR; simp only [hb]; rfl
theorem lpost {r : Int × Int × Int} {a b c : Int} {w w' : World} (h : r = (a, b, c)) (hx : Ext w w') : LPost r w (.returned (.tuple #[.agg #[.int .i64 a, .int .i64 b], .int .i64 c])) w' := by
  subst h; exact ⟨rfl, hx⟩
theorem labB_no {n s : Nat} (h : labB n s = false) : n < 1 ∨ 16384 < n ∨ 16384 < s := by
  simp [labB] at h; omega
theorem labB_yes {n s : Nat} (h : labB n s = true) : 1 ≤ n ∧ n ≤ 16384 ∧ s ≤ 16384 := by
  simp [labB] at h; omega
def LpRel (s : ByteArray) (w : World) (n m : Value) (w' : World) : Prop := ∃ (pos n' m' nu su : Nat), n = .int .i64 n' ∧ m = .int .i64 m' ∧ pos ≤ s.size ∧ n' ≤ 5 ∧ m' ≤ 4 ∧ pos = n' + m' ∧ (0 < m' → 0 < n') ∧ nu < 10 ^ n' ∧ su < 27 ^ m' ∧
  labGo n' m' nu su (s.data.toList.drop pos) = labP s.data.toList ∧
  w' = ((w.alloc (.cells #[.int .i64 0, .int .i64 0] 23)).alloc (.cells #[.int .i64 nu, .int .i64 su] 23)).alloc (.stringIter s pos)
set_option maxHeartbeats 4000000 in
set_option maxRecDepth 100000 in
theorem labp_any (s : ByteArray) (w : World) (hs : s.size ≤ 281474976710656) : Calls Tryd.prog 28 #[.string s] w (LPost (labR (labP s.data.toList)) w) := by
  go_enter Tryd.func28, Tryd.ntmps28
  go_wp2
  go_loopw [5, 6] (fun n m w' => LpRel s w n m w') (fun _ _ w' => s.size - w'.iterPos (w.heap.size + 2))
  case atStart => exact ⟨0, 0, 0, 0, 0, rfl, rfl, by omega, by omega, by omega, rfl, by omega, by omega, by omega, labGo_labP _, rfl⟩
  case round =>
    obtain ⟨pos, n, m, nu, su, rfl, rfl, hpos, hn5, hm4, hpn, hmn, hnu, hsu, hgo, rfl⟩ := hrel
    have HGO := Lib.hid hgo
    have HNU := Lib.hid hnu
    have HSU := Lib.hid hsu
    have HPN := Lib.hid hpn
    have HMN := Lib.hid hmn
    clear hgo hnu hsu hpn hmn
    by_cases hp : pos < s.size
    · by_cases ha : (s[pos]'hp).toNat < 128
      · have hnx := next_ascii ((w.alloc (.cells #[.int .i64 0, .int .i64 0] 23)).alloc (.cells #[.int .i64 nu, .int .i64 su] 23)) (w.heap.size + 1 + 1) (by simp) s pos
        have hnx := fun ty => hnx ty hp ha
        obtain ⟨c, hc⟩ : ∃ c : UInt8, c = s[pos]'hp := ⟨_, rfl⟩
        have hl := get_list s pos hp
        rw [← hc] at hl hnx ha
        have HL := Lib.hid hl
        clear hl hc
        obtain ⟨k, hk⟩ : ∃ k : Nat, k = c.toNat := ⟨_, rfl⟩
        rw [← hk] at hnx ha
        have HK := Lib.hid hk
        clear hk
        have HNX := Lib.hid hnx
        clear hnx
        have hme : ∀ (x y : Int), s.size - (((w.alloc (.cells #[.int .i64 0, .int .i64 0] 23)).alloc (.cells #[.int .i64 x, .int .i64 y] 23)).alloc (.stringIter s (pos + 1))).iterPos (w.heap.size + 2) < s.size - (((w.alloc (.cells #[.int .i64 0, .int .i64 0] 23)).alloc (.cells #[.int .i64 nu, .int .i64 su] 23)).alloc (.stringIter s pos)).iterPos (w.heap.size + 2) := fun x y => by
          rw [iterPos_at _ _ (by simp), iterPos_at _ _ (by simp)]; omega
        have HME := Lib.hid hme
        clear hme
        by_cases hA : 48 ≤ k ∧ k ≤ 57 ∧ m = 0 ∧ n < 5 ∧ (0 < n ∨ k ≠ 48)
        · obtain ⟨h1, h2, rfl, h4, h5⟩ := hA
          have hnx := HNX.out
          have hpn0 : pos = n := HPN.out
          have hbn : nu < 10000 := Nat.lt_of_lt_of_le HNU.out (Nat.pow_le_pow_right (by decide) (show n ≤ 4 by omega))
          have fin : LpRel s w (.int .i64 ((n : Int) + 1)) (.int .i64 0) (((w.alloc (.cells #[.int .i64 0, .int .i64 0] 23)).alloc (.cells #[.int .i64 (10 * (nu : Int) + ((k : Int) - 48)), .int .i64 su] 23)).alloc (.stringIter s (pos + 1))) := by
            refine ⟨pos + 1, n + 1, 0, 10 * nu + (k - 48), su, rfl, rfl, by omega, by omega, by omega, by omega, by omega, ?_, HSU.out, ?_, by rw [show (10 * (nu : Int) + ((k : Int) - 48)) = ((10 * nu + (k - 48) : Nat) : Int) by omega]⟩
            · have := HNU.out; rw [Nat.pow_succ]; omega
            · rw [← HGO.out, HL.out, HK.out]
              exact (labGo_A (by rw [← HK.out]; exact h1) (by rw [← HK.out]; exact h2) h4 (by rw [← HK.out]; exact h5)).symm
          have FIN := Lib.hid fin
          clear fin
          rcases Nat.eq_zero_or_pos n with h6 | h6
          · obtain rfl : pos = 0 := by omega
            have hp0 : ((k : Int) == 48) = false := by simpa using (show ¬ (k : Int) = 48 by omega)
            clear hpn0 h5 h6
            go_wp2
            exact ⟨FIN.out, HME.out _ _⟩
          · have hp0 : (0 : Int) < (pos : Int) := by omega
            clear hpn0 h5
            go_wp2
            exact ⟨FIN.out, HME.out _ _⟩
        · by_cases hB : 97 ≤ k ∧ k ≤ 122 ∧ 0 < n ∧ m < 4
          · obtain ⟨h1, h2, h3, h4⟩ := hB
            have hnx := HNX.out
            have hbn : su < 19683 := Nat.lt_of_lt_of_le HSU.out (Nat.pow_le_pow_right (by decide) (show m ≤ 3 by omega))
            have fin : LpRel s w (.int .i64 n) (.int .i64 ((m : Int) + 1)) (((w.alloc (.cells #[.int .i64 0, .int .i64 0] 23)).alloc (.cells #[.int .i64 nu, .int .i64 (26 * (su : Int) + ((k : Int) - 97) + 1)] 23)).alloc (.stringIter s (pos + 1))) := by
              refine ⟨pos + 1, n, m + 1, nu, 26 * su + (k - 97) + 1, rfl, rfl, by omega, by omega, by omega, by have := HPN.out; omega, fun _ => h3, HNU.out, ?_, ?_, by rw [show (26 * (su : Int) + ((k : Int) - 97) + 1) = ((26 * su + (k - 97) + 1 : Nat) : Int) by omega]⟩
              · have := HSU.out; rw [Nat.pow_succ]; omega
              · rw [← HGO.out, HL.out, HK.out]
                exact (labGo_B (by rw [← HK.out]; exact h1) (by rw [← HK.out]; exact h2) h3 h4).symm
            have FIN := Lib.hid fin
            clear fin hA
            go_wp2
            exact ⟨FIN.out, HME.out _ _⟩
          · have hnx := HNX.out
            have hcl : labR (labP s.data.toList) = (0, 0, 7) := lp_none (by rw [← HGO.out, HL.out]; exact labGo_C (by rw [← HK.out]; exact hA) (by rw [← HK.out]; exact hB))
            have HCL := Lib.hid hcl
            have hpn0 := HPN.out
            have HA := Lib.hid (show (48 ≤ k ∧ k ≤ 57 ∧ m = 0 ∧ n < 5 ∧ (0 < pos ∨ k ≠ 48)) → False from fun ⟨a, b, d, f, g⟩ => hA ⟨a, b, d, f, g.imp (fun h => by omega) id⟩)
            have HB := Lib.hid hB
            clear hcl hA hB hpn0
            go_wp2
            all_goals first
              | (refine bodyPost_ret (v := .tuple #[.agg #[.int .i64 0, .int .i64 0], .int .i64 7]) (by simp [results, Tryd.results28, go_sem]) rfl ?_
                 exact lpost HCL.out (by repeat (first | exact Ext.refl _ | apply Ext.alloc)))
              | exact (HA.out ⟨by omega, by omega, by omega, by omega, .inl (by omega)⟩).elim
              | exact (HB.out ⟨by omega, by omega, by omega, by omega⟩).elim
              | (rename_i hq; exact (HA.out ⟨by omega, by omega, by omega, by omega, .inr (by simp at hq; omega)⟩).elim)
      · have hnx := fun ty => next_any ((w.alloc (.cells #[.int .i64 0, .int .i64 0] 23)).alloc (.cells #[.int .i64 nu, .int .i64 su] 23)) (w.heap.size + 1 + 1) (by simp) s pos ty hp
        have hdh := (decode_high s pos hp (by omega)).1
        have hcl : labR (labP s.data.toList) = (0, 0, 7) := lp_none (by rw [← HGO.out, get_list s pos hp]; exact labGo_C (by omega) (by omega))
        have HCL := Lib.hid hcl
        obtain ⟨r, hr⟩ : ∃ r, r = Utf8.decode s pos := ⟨_, rfl⟩
        rw [← hr] at hnx hdh
        obtain ⟨r1, r2⟩ := r
        simp only at hdh hnx
        have hdi : (128 : Int) ≤ (r1 : Int) := by omega
        clear hcl hr hdh
        go_wp2
        all_goals first
          | (refine bodyPost_ret (v := .tuple #[.agg #[.int .i64 0, .int .i64 0], .int .i64 7]) (by simp [results, Tryd.results28, go_sem]) rfl ?_
             exact lpost HCL.out (by repeat (first | exact Ext.refl _ | apply Ext.alloc)))
    · have hnx := fun ty => next_end ((w.alloc (.cells #[.int .i64 0, .int .i64 0] 23)).alloc (.cells #[.int .i64 nu, .int .i64 su] 23)) (w.heap.size + 1 + 1) (by simp) s pos ty hp
      have hgo := HGO.out
      rw [drop_end s pos hp] at hgo
      have HG := Lib.hid hgo
      clear hgo
      by_cases hn0 : n = 0
      · subst hn0
        go_wp2
        refine bodyPost_ret (v := .tuple #[.agg #[.int .i64 0, .int .i64 0], .int .i64 7]) (by simp [results, Tryd.results28, go_sem]) rfl ?_
        exact lpost (lp_end0 rfl HG.out) (by repeat (first | exact Ext.refl _ | apply Ext.alloc))
      · have hz : ((n : Int) == 0) = false := by simpa using hn0
        cases hb : labB nu su with
        | false =>
          have HB := Lib.hid hb
          have hbad := labB_no hb
          have HBAD := Lib.hid hbad
          clear hb hbad
          go_wp2
          all_goals first
            | (exfalso; rcases HBAD.out with hq | hq | hq <;> omega)
            | (refine bodyPost_ret (v := .tuple #[.agg #[.int .i64 0, .int .i64 0], .int .i64 5]) (by simp [results, Tryd.results28, go_sem]) rfl ?_
               exact lpost (lp_bad hn0 HB.out HG.out) (by repeat (first | exact Ext.refl _ | apply Ext.alloc)))
        | true =>
          have HB := Lib.hid hb
          obtain ⟨hb1, hb2, hb3⟩ := labB_yes hb
          clear hb
          go_wp2
          all_goals first
            | (refine bodyPost_ret (v := .tuple #[.agg #[.int .i64 nu, .int .i64 su], .int .i64 0]) (by simp [results, Tryd.results28, go_sem]) rfl ?_
               exact lpost (lp_ok hn0 HB.out HG.out) (by repeat (first | exact Ext.refl _ | apply Ext.alloc)))
end Go.Proofs.YtbfogchdeijedaaDoor
