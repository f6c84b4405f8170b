/- The contract of the reference's number. -/
import Derived.Test.YtbfogchdeijedaaDoorFail
namespace Go.Proofs.YtbfogchdeijedaaDoor
open Go Go.RowKit

def numI (l : List UInt8) : Int := match numP l with | some n => n | none => -1
theorem list_size (s : ByteArray) : s.data.toList.length = s.size := by simp
theorem numI_short {s : ByteArray} (h : s.size < 1 ∨ 3 < s.size) : numI s.data.toList = -1 := by
  unfold numI numP; rw [if_neg]; rw [list_size]; omega
theorem numI_zero {s : ByteArray} (h0 : 1 < s.size) (h : s[0].toNat = 48) : numI s.data.toList = -1 := by
  unfold numI numP
  rw [if_neg]
  rintro ⟨_, _, _, h4⟩
  have e := get_list s 0 (by omega)
  rw [List.drop_zero] at e
  have h5 := h4 (by rw [e]; simp; exact (ofNat_toNat h).symm)
  rw [list_size] at h5; omega
theorem numI_bad {s : ByteArray} {i : Nat} (hi : i < s.size) (h : s[i].toNat < 48 ∨ 57 < s[i].toNat) : numI s.data.toList = -1 := by
  unfold numI numP
  rw [if_neg]
  rintro ⟨_, _, h3, _⟩
  have hm : s[i] ∈ s.data.toList := by
    have e := get_list s i hi
    have : s[i] ∈ s.data.toList.drop i := by rw [e]; simp
    exact List.mem_of_mem_drop this
  have := dig_iff.1 (List.all_eq_true.1 h3 _ hm)
  omega
theorem numI_good {s : ByteArray} (h1 : 1 ≤ s.size) (h3 : s.size ≤ 3) (h0 : s.size = 1 ∨ s[0].toNat ≠ 48) (hall : s.data.toList.all dig = true) : numI s.data.toList = dval 0 s.data.toList := by
  unfold numI numP
  rw [if_pos]
  rw [list_size]
  refine ⟨h1, h3, hall, fun h => ?_⟩
  rcases h0 with h0 | h0
  · exact h0
  · have e := get_list s 0 (by omega)
    rw [List.drop_zero] at e
    rw [e] at h
    have : s[0] = 48 := by simpa using h
    rw [this] at h0
    exact absurd rfl h0
theorem take_snoc {s : ByteArray} {i : Nat} (hi : i < s.size) : s.data.toList.take (i + 1) = s.data.toList.take i ++ [s[i]] := by
  rw [List.take_add_one]
  congr 1
  have e : s.data.toList[i]? = some s[i] := by
    have h := get_list s i hi
    have : (s.data.toList.drop i)[0]? = some s[i] := by rw [h]; rfl
    simpa using this
  rw [e]; rfl
def NumRel (s : ByteArray) (s3 s4 : Value) : Prop := ∃ (i : Nat), s4 = .int .i64 i ∧ s3 = .int .i64 (dval 0 (s.data.toList.take i) : Nat) ∧ i ≤ s.size ∧ (s.data.toList.take i).all dig = true
def toMs (n : Nat) (v : Value) : Nat := match v with | .int _ z => n - z.toNat | _ => 0
theorem num_lt {l : List UInt8} {i : Nat} (h : (l.take i).all dig = true) (hi : i ≤ 2) : dval 0 (l.take i) < 100 := by
  have h1 := dval_lt _ 0 h
  have h2 : (l.take i).length ≤ 2 := by rw [List.length_take]; omega
  have h3 : 10 ^ (l.take i).length ≤ 10 ^ 2 := Nat.pow_le_pow_right (by decide) h2
  omega
set_option maxHeartbeats 2000000 in
set_option maxRecDepth 100000 in
theorem rnum_any (s : ByteArray) (w : World) (hs : s.size ≤ 281474976710656) : Calls Tryd.prog 30 #[.string s] w fun e w' => e = .returned (.int .i64 (numI s.data.toList)) ∧ w = w' := by
  by_cases h1 : s.size < 1
  · have HF := Lib.hid (numI_short (.inl h1))
    have h0 : s.size = 0 := by omega
    have hi : (s.size : Int) < 1 := by omega
    clear h1 h0
    go_enter Tryd.func30, Tryd.ntmps30
    go_wp2
    go_ret
    exact ⟨ret_int HF.out.symm, rfl⟩
  · by_cases h3 : 3 < s.size
    · have HF := Lib.hid (numI_short (.inr h3))
      have hi : ¬ (s.size : Int) < 1 := by omega
      have hi3 : (3 : Int) < (s.size : Int) := by omega
      clear h1 h3
      go_enter Tryd.func30, Tryd.ntmps30
      go_wp2
      go_ret
      exact ⟨ret_int HF.out.symm, rfl⟩
    · have hi : ¬ (s.size : Int) < 1 := by omega
      have hi3 : ¬ (3 : Int) < (s.size : Int) := by omega
      have hp : 0 < s.size := by omega
      by_cases hz : s[0].toNat = 48 ∧ 1 < s.size
      · have HF := Lib.hid (numI_zero hz.2 hz.1)
        have hb : ((s[0].toNat : Int) == 48) = true := by rw [hz.1]; rfl
        have hb2 : (1 : Int) < (s.size : Int) := by omega
        clear hz h1 h3
        go_enter Tryd.func30, Tryd.ntmps30
        go_wp2
        go_ret
        exact ⟨ret_int HF.out.symm, rfl⟩
      · have HG := Lib.hid (fun h => numI_good (s := s) (by omega) (by omega) (by omega) h)
        have HZ := Lib.hid hz
        have hcase : ((s[0].toNat : Int) == 48) = true ∧ ¬ (1 : Int) < (s.size : Int) ∨ ((s[0].toNat : Int) == 48) = false := by
          by_cases h48 : s[0].toNat = 48
          · exact .inl ⟨by rw [h48]; rfl, by omega⟩
          · exact .inr (by simpa using (show ¬ (s[0].toNat : Int) = 48 by omega))
        clear hz
        have key : ∀ (i : Nat) (hi : i < s.size), (s.data.toList.take i).all dig = true → s[i].toNat < 48 ∨ 57 < s[i].toNat ∨ (s.data.toList.take (i + 1)).all dig = true ∧ dval 0 (s.data.toList.take (i + 1)) = 10 * dval 0 (s.data.toList.take i) + (s[i].toNat - 48) ∧ 48 ≤ s[i].toNat ∧ s[i].toNat ≤ 57 ∧ dval 0 (s.data.toList.take i) < 100 := by
          intro i hi ha
          by_cases h48 : s[i].toNat < 48
          · exact .inl h48
          · by_cases h57 : 57 < s[i].toNat
            · exact .inr (.inl h57)
            · refine .inr (.inr ⟨?_, ?_, by omega, by omega, num_lt ha (by omega)⟩)
              · rw [take_snoc hi, List.all_append, ha]; simp [dig]; omega
              · rw [take_snoc hi, dval_snoc]
        have KEY := Lib.hid key
        clear key
        rcases hcase with ⟨hb, hb2⟩ | hb
        all_goals
          go_enter Tryd.func30, Tryd.ntmps30
          go_wp2
          go_loop [3, 4] (fun s3 s4 => NumRel s s3 s4) (fun _ s4 => toMs s.size s4)
          case atStart => exact ⟨0, rfl, rfl, by omega, rfl⟩
          case round =>
            obtain ⟨i, rfl, rfl, hle, ha⟩ := hrel
            have HA := Lib.hid ha
            clear ha
            by_cases hlt : i < s.size
            · have hltI : (i : Int) < (s.size : Int) := by omega
              rcases KEY.out i hlt HA.out with h48 | h57 | ⟨k1, k2, k3, k4, k5⟩
              · have HF := Lib.hid (numI_bad hlt (.inl h48))
                have hq : (s[i].toNat : Int) < 48 := by omega
                clear h48
                go_wp2
                go_ret
                exact ⟨ret_int HF.out.symm, rfl⟩
              · have HF := Lib.hid (numI_bad hlt (.inr h57))
                have hq : ¬ (s[i].toNat : Int) < 48 := by omega
                have hq2 : (57 : Int) < (s[i].toNat : Int) := by omega
                clear h57
                go_wp2
                go_ret
                exact ⟨ret_int HF.out.symm, rfl⟩
              · have hq : ¬ (s[i].toNat : Int) < 48 := by omega
                have hq2 : ¬ (57 : Int) < (s[i].toNat : Int) := by omega
                have K2 := Lib.hid k2
                have K1 := Lib.hid k1
                generalize hdv : dval 0 (s.data.toList.take i) = dv at *
                have HDV := Lib.hid hdv
                clear k2 k1 hdv
                go_wp2
                refine ⟨⟨i + 1, rfl, ?_, by omega, K1.out⟩, by simp [toMs]; omega⟩
                rw [K2.out]
                congr 1
                omega
            · have hltI : ¬ (i : Int) < (s.size : Int) := by omega
              have ht : s.data.toList.take i = s.data.toList := List.take_of_length_le (by rw [list_size]; omega)
              have ha := HA.out
              rw [ht] at ha
              have HF := Lib.hid (HG.out ha)
              have HT := Lib.hid ht
              clear ha ht
              go_wp2
              go_ret
              refine ⟨?_, rfl⟩
              rw [HF.out, HT.out]
              rfl
end Go.Proofs.YtbfogchdeijedaaDoor
