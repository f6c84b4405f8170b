/- The contract of the reference's parts. -/
import Derived.Test.YtbfogchdeijedaaDoorScan
import Derived.Test.YtbfogchdeijedaaDoorRNum
namespace Go.Proofs.YtbfogchdeijedaaDoor
open Go Go.RowKit

def bcf (b : ByteArray) : List Value := [.string b]
theorem bcf_len (a : ByteArray) : (bcf a).length = 1 := rfl
theorem bcf_one (a : ByteArray) : ∀ u ∈ bcf a, u.oneCell' = true := fun u hu => by
  obtain rfl : u = .string a := by simpa [bcf] using hu
  rfl
theorem info9 : (Tryd.prog.info? 9).map (fun i => (i.zero, i.size, i.bytes)) = some (some (.string ⟨#[]⟩), 1, 16) := by kernel_rfl
def blist (l : List ByteArray) : List (List UInt8) := l.map fun b => b.data.toList
theorem ext_list (s : ByteArray) (a b : Nat) : (s.extract a b).data.toList = (s.data.toList.drop a).take (b - a) := by
  rw [ByteArray.data_extract, Array.toList_extract]
theorem app32_one (X : World) {base : Nat} {v : Value} {l : List ByteArray} (ho : OL bcf 1 X base 9 v l) (c : ByteArray) (b : Nat) (hb : b = X.heap.size) (hm : l.length ≤ 10000000) (hbase : base ≤ X.heap.size) :
    ∃ A' c' w', (Builtin.append_ #[32, 32] 32 #[v, .slice (some ⟨b, 0, none⟩) 1 1]).run Tryd.prog (X.alloc (.cells #[.string c] 9)) = .ok (.slice A' (l.length + 1) c') w' ∧ OL bcf 1 w' base 9 (.slice A' (l.length + 1) c') (l ++ [c]) ∧ Below base X w' := by
  subst hb
  obtain ⟨A', c', w', h1, h2, h3, _⟩ := OL.append (P := Tryd.prog) (cf := bcf) (sz := 1) bcf_len bcf_one (by omega) Tryd.underlying32 info9 rfl (by omega) (ho.ext ((Ext.refl X).alloc _)) (SL.one (cf := bcf) (sz := 1) X c #[.string c] rfl 9) 1 (by omega) (by simp; omega)
  exact ⟨A', c', w', h1, h2, Below.trans (Below.mono ((Ext.refl X).alloc _) hbase) (h3 base (Nat.le_refl _))⟩
def PRel (w : World) (s : ByteArray) (s3 s4 s5 : Value) (w' : World) : Prop :=
  ∃ (i fr : Nat) (out : List ByteArray) (A : Option Addr) (c : Nat), s5 = .int .i64 i ∧ s4 = .int .i64 fr ∧ s3 = .slice A out.length c ∧ OL bcf 1 w' w.heap.size 9 s3 out ∧ Ext w w' ∧ out.length ≤ i ∧
    ((i ≤ s.size ∧ fr ≤ i ∧ NoSl ((s.data.toList.drop fr).take (i - fr)) ∧ blist out ++ parts (s.data.toList.drop fr) = parts s.data.toList) ∨ (i = s.size + 1 ∧ blist out = parts s.data.toList))
def PartsPost (w : World) (l : List (List UInt8)) (e : Ending) (w' : World) : Prop := ∃ (out : List ByteArray) (A : Option Addr) (c : Nat), e = .returned (.slice A out.length c) ∧ blist out = l ∧ SL bcf 1 w' A out.length out ∧ Ext w w'
theorem blist_snoc (out : List ByteArray) (b : ByteArray) : blist (out ++ [b]) = blist out ++ [b.data.toList] := by simp [blist]
theorem drop_split {l : List UInt8} {fr i : Nat} (h : fr ≤ i) : l.drop fr = (l.drop fr).take (i - fr) ++ l.drop i := by
  have := List.take_append_drop (i - fr) (l.drop fr)
  rw [List.drop_drop, show fr + (i - fr) = i by omega] at this
  exact this.symm
/-- The step at a slash. -/
theorem p_slash {s : ByteArray} {i fr : Nat} (hi : i < s.size) (h : fr ≤ i) (hn : NoSl ((s.data.toList.drop fr).take (i - fr))) (hc : s[i].toNat = 47) : parts (s.data.toList.drop fr) = (s.extract fr i).data.toList :: parts (s.data.toList.drop (i + 1)) := by
  rw [ext_list]
  have e := drop_split (l := s.data.toList) h
  rw [get_list s i hi] at e
  have hc2 : s[i] = 47 := by rw [← ofNat_toNat hc]; rfl
  rw [hc2] at e
  conv => lhs; rw [e]
  exact parts_cut _ _ hn
theorem p_end {s : ByteArray} {fr : Nat} (hn : NoSl ((s.data.toList.drop fr).take (s.size - fr))) : parts (s.data.toList.drop fr) = [(s.extract fr s.size).data.toList] := by
  rw [ext_list]
  have e : (s.data.toList.drop fr).take (s.size - fr) = s.data.toList.drop fr := List.take_of_length_le (by rw [List.length_drop, list_size]; omega)
  rw [e] at hn ⊢
  exact parts_no _ hn
theorem p_step {s : ByteArray} {i fr : Nat} (hi : i < s.size) (h : fr ≤ i) (hn : NoSl ((s.data.toList.drop fr).take (i - fr))) (hc : s[i].toNat ≠ 47) : NoSl ((s.data.toList.drop fr).take (i + 1 - fr)) := by
  have e : (s.data.toList.drop fr).take (i + 1 - fr) = (s.data.toList.drop fr).take (i - fr) ++ [s[i]] := by
    rw [show i + 1 - fr = i - fr + 1 by omega, List.take_add_one]
    congr 1
    have h2 : (s.data.toList.drop fr)[i - fr]? = some s[i] := by
      rw [List.getElem?_drop, show fr + (i - fr) = i by omega]
      have h3 := get_list s i hi
      have : (s.data.toList.drop i)[0]? = some s[i] := by rw [h3]; rfl
      simpa using this
    rw [h2]; rfl
  rw [e]
  refine NoSl.append hn fun c hcm => ?_
  obtain rfl : c = s[i] := by simpa using hcm
  intro e2
  rw [e2] at hc
  exact hc rfl
theorem nosl_nil (l : List UInt8) (i : Nat) : NoSl ((l.drop i).take (i - i)) := by rw [Nat.sub_self, List.take_zero]; exact fun _ h => by simp at h
set_option maxHeartbeats 4000000 in
set_option maxRecDepth 100000 in
theorem rparts_any (s : ByteArray) (w : World) (hs : s.size ≤ 4000000) : Calls Tryd.prog 29 #[.string s] w (PartsPost w (parts s.data.toList)) := by
  go_enter Tryd.func29, Tryd.ntmps29
  go_wp2
  go_loopw [3, 4, 5] (fun s3 s4 s5 w' => PRel w s s3 s4 s5 w') (fun _ _ s5 _ => toMs (s.size + 1) s5)
  case atStart => exact ⟨0, 0, [], none, 0, rfl, rfl, rfl, OL.nil _ _ _, Ext.refl _, Nat.le_refl _, .inl ⟨by omega, by omega, nosl_nil _ _, by simp [blist]⟩⟩
  case round =>
    obtain ⟨i, fr, out, A, c, rfl, rfl, rfl, ho, hx, hol, hc⟩ := hrel
    have HO := Lib.hid ho
    have HX := Lib.hid hx
    have hle := hx.lt
    clear ho hx
    rcases hc with ⟨hi, hfr, hn, hp⟩ | ⟨rfl, hp⟩
    · have HN := Lib.hid hn
      have HP := Lib.hid hp
      clear hn hp
      have hiI : (i : Int) ≤ (s.size : Int) := by omega
      by_cases hlt : i < s.size
      · have hne : ((i : Int) == (s.size : Int)) = false := by simpa using (show ¬ (i : Int) = (s.size : Int) by omega)
        have hltI : (i : Int) < (s.size : Int) := by omega
        by_cases h47 : s[i].toNat = 47
        · have HS := Lib.hid (p_slash hlt hfr HN.out h47)
          have hb : ((s[i].toNat : Int) == 47) = true := by rw [h47]; rfl
          clear h47
          obtain ⟨A5, c5, w5, hrun, ho5, hb5⟩ := app32_one wr HO.out (s.extract fr i) wr.heap.size rfl (by omega) hle
          have HO5 := Lib.hid ho5
          have HB5 := Lib.hid hb5
          clear ho5 hb5
          go_wp2_with (first | (at_builtin; refine wpList_append_run (s := .tmp 22) (x := .tmp 27) hrun rfl rfl rfl rfl rfl ?_))
          refine ⟨⟨i + 1, i + 1, out ++ [s.extract fr i], A5, c5, rfl, rfl, by rw [List.length_append]; rfl, HO5.out, Below.trans HX.out HB5.out, by rw [List.length_append]; simp; omega, .inl ⟨by omega, by omega, nosl_nil _ _, ?_⟩⟩, by simp [toMs]; omega⟩
          rw [blist_snoc, ← HP.out, HS.out]; simp
        · have HS := Lib.hid (p_step hlt hfr HN.out h47)
          have hb : ((s[i].toNat : Int) == 47) = false := by simpa using (show ¬ (s[i].toNat : Int) = 47 by omega)
          clear h47
          go_wp2_with fail
          exact ⟨⟨i + 1, fr, out, A, c, rfl, rfl, rfl, HO.out, HX.out, by omega, .inl ⟨by omega, by omega, HS.out, HP.out⟩⟩, by simp [toMs]; omega⟩
      · obtain rfl : i = s.size := by omega
        have HS := Lib.hid (p_end HN.out)
        obtain ⟨A5, c5, w5, hrun, ho5, hb5⟩ := app32_one wr HO.out (s.extract fr s.size) wr.heap.size rfl (by omega) hle
        have HO5 := Lib.hid ho5
        have HB5 := Lib.hid hb5
        clear ho5 hb5
        go_wp2_with (first | (at_builtin; refine wpList_append_run (s := .tmp 22) (x := .tmp 27) hrun rfl rfl rfl rfl rfl ?_))
        refine ⟨⟨s.size + 1, s.size + 1, out ++ [s.extract fr s.size], A5, c5, rfl, rfl, by rw [List.length_append]; rfl, HO5.out, Below.trans HX.out HB5.out, by rw [List.length_append]; simp; omega, .inr ⟨rfl, ?_⟩⟩, by simp [toMs]⟩
        rw [blist_snoc, ← HP.out, HS.out]
    · have hiI : ¬ ((s.size + 1 : Nat) : Int) ≤ (s.size : Int) := by omega
      have HP := Lib.hid hp
      clear hp
      go_wp2_with fail
      go_ret
      obtain ⟨A9, c9, e9, _, hs9⟩ := OL.form bcf_len HO.out
      injection e9 with e1 e2 e3
      subst e1 e3
      exact ⟨out, A, c, rfl, HP.out, hs9, HX.out⟩
end Go.Proofs.YtbfogchdeijedaaDoor
