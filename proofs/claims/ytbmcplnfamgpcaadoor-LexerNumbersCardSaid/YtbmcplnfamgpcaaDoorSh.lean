/- The contracts of both Shows. -/
import Derived.Test.YtbmcplnfamgpcaaDoorSm
namespace Go.Proofs.YtbmcplnfamgpcaaDoor
open Go Go.RowKit

def texts (l : List Tk) : List (List UInt8) := (l.filter fun t => !decide (t.kd = 0)).map Tk.tx
def showP (l : List Tk) : List UInt8 := Lib.join (texts l) [32]
/-- The bulk of the texts, one byte for each. -/
def tot : List Tk → Nat
  | [] => 0
  | t :: l => t.tx.length + 1 + tot l
theorem tot_app (a b : List Tk) : tot (a ++ b) = tot a + tot b := by
  induction a with
  | nil => simp [tot]
  | cons t a ih => rw [List.cons_append, tot, tot, ih]; omega
theorem texts_step (l : List Tk) (k : Nat) (t : Tk) (h : l[k]? = some t) : texts (l.take (k + 1)) = texts (l.take k) ++ (if t.kd = 0 then [] else [t.tx]) := by
  have e : l.take (k + 1) = l.take k ++ [t] := by rw [List.take_add_one, h]; rfl
  rw [e]; unfold texts; rw [List.filter_append, List.map_append]
  congr 1
  by_cases h0 : t.kd = 0 <;> simp [h0]
theorem tot_step (l : List Tk) (k : Nat) (t : Tk) (h : l[k]? = some t) : tot (l.take k) + (t.tx.length + 1) ≤ tot l := by
  have e : l.take (k + 1) = l.take k ++ [t] := by rw [List.take_add_one, h]; rfl
  have e2 := tot_app (l.take (k + 1)) (l.drop (k + 1))
  rw [List.take_append_drop, e, tot_app] at e2
  simp only [tot] at e2
  omega
theorem join_snoc (xs : List (List UInt8)) (x sep : List UInt8) : Lib.join (xs ++ [x]) sep = if xs = [] then x else Lib.join xs sep ++ (sep ++ x) := by
  cases xs with
  | nil => rw [if_pos rfl, List.nil_append, Lib.join_one]
  | cons y r =>
    rw [if_neg (by simp), List.cons_append, Lib.join_cons, Lib.join_cons]
    unfold Lib.joinTail
    rw [List.map_append, List.flatten_append]
    simp
theorem join_len (l : List Tk) : (Lib.join (texts l) [32]).length ≤ tot l := by
  have h1 : ∀ xs : List (List UInt8), (Lib.joinTail [32] xs).length = (xs.map fun x => x.length + 1).sum := fun xs => by
    induction xs with
    | nil => rfl
    | cons x xs ih =>
      unfold Lib.joinTail at ih ⊢
      rw [List.map_cons, List.flatten_cons, List.length_append, ih, List.map_cons, List.sum_cons, List.length_append]
      simp; omega
  have h2 : ((texts l).map fun x => x.length + 1).sum ≤ tot l := by
    induction l with
    | nil => exact Nat.le_refl _
    | cons t l ih =>
      unfold texts at ih ⊢
      rw [tot]
      by_cases h0 : t.kd = 0
      · simp only [h0, decide_true, Bool.not_true, Bool.false_eq_true, not_false_eq_true, List.filter_cons_of_neg]; omega
      · simp only [h0, decide_false, Bool.not_false, List.filter_cons_of_pos, List.map_cons, List.sum_cons]; omega
  cases hx : texts l with
  | nil => rw [Lib.join_nil]; exact Nat.zero_le _
  | cons y r =>
    rw [hx] at h2
    rw [Lib.join_cons, List.length_append, h1]
    rw [List.map_cons, List.sum_cons] at h2
    omega
theorem texts_len (l : List Tk) : (texts l).length ≤ l.length := by
  unfold texts; rw [List.length_map]; exact List.length_filter_le _ _
theorem len_tot (l : List Tk) : l.length ≤ tot l := by
  induction l with
  | nil => exact Nat.le_refl _
  | cons t l ih => rw [tot, List.length_cons]; omega
def scf (b : List UInt8) : List Value := [.string ⟨b.toArray⟩]
theorem scf_len (b : List UInt8) : (scf b).length = 1 := rfl
theorem scf_one (b : List UInt8) : ∀ u ∈ scf b, u.oneCell' = true := fun u hu => by
  simp only [scf, List.mem_cons, List.not_mem_nil, or_false] at hu
  subst hu; rfl
theorem info9 : (Tryd.prog.info? 9).map (fun i => (i.zero, i.size, i.bytes)) = some (some (.string ⟨#[]⟩), 1, 16) := by kernel_rfl
theorem ap39_one (X : World) {base : Nat} {v : Value} {l : List (List UInt8)} (ho : OL scf 1 X base 9 v l) (x : List UInt8) (b : Nat) (hb : b = X.heap.size) (hm : l.length ≤ 10000000) (hbase : base ≤ X.heap.size) :
    ∃ A' c' w', (Builtin.append_ #[39, 39] 39 #[v, .slice (some ⟨b, 0, none⟩) 1 1]).run Tryd.prog (X.alloc (.cells #[.string ⟨x.toArray⟩] 9)) = .ok (.slice A' (l.length + 1) c') w' ∧
      OL scf 1 w' base 9 (.slice A' (l.length + 1) c') (l ++ [x]) ∧ Below base X w' := by
  subst hb
  obtain ⟨A', c', w', h1, h2, h3, _⟩ := OL.append (cf := scf) (sz := 1) (l' := [x]) scf_len scf_one (by omega) Tryd.underlying39 info9 rfl (by omega) (ho.ext ((Ext.refl X).alloc _)) (SL.one (cf := scf) (sz := 1) X x #[.string ⟨x.toArray⟩] rfl 9) 1 (by omega) (by simp; omega)
  exact ⟨A', c', w', h1, h2, Below.trans (Below.mono ((Ext.refl X).alloc _) hbase) (h3 base (Nat.le_refl _))⟩
def LsRel (W : World) (l : List Tk) (s3 s8 : Value) (w' : World) : Prop :=
  ∃ k A c, k ≤ l.length ∧ s8 = .int .i64 (k : Nat) ∧ s3 = .slice A (texts (l.take k)).length c ∧ OL scf 1 w' W.heap.size 9 s3 (texts (l.take k)) ∧ Ext W w'
theorem join_any (X : World) {base : Nat} {A : Option Addr} {c : Nat} {l : List (List UInt8)} (ho : OL scf 1 X base 9 (.slice A l.length c) l) (hl : l.length ≤ 10000000) (hj : (Lib.join l [32]).length ≤ 100000000) :
    Calls Tryd.prog 38 #[.slice A l.length c, .string ⟨#[32]⟩] X (StrPost (Lib.join l [32]) X) := by
  obtain ⟨A', c', e, hc, hs⟩ := OL.form scf_len ho
  injection e with e1 e2 e3
  subst e1 e3
  by_cases h0 : 0 < l.length
  · obtain ⟨b, off, rfl, hb, hcell⟩ := hs.2 h0
    have := Tryd.strings_Join b off c (l.map fun x => (⟨x.toArray⟩ : ByteArray)) ⟨#[32]⟩ X (fun j x hx => by
      rw [List.getElem?_map] at hx
      obtain ⟨a, ha, rfl⟩ := Option.map_eq_some_iff.1 hx
      have := hcell j a ha 0 _ rfl
      simpa using this) hb (by rw [List.length_map]; omega) (by rw [List.length_map]; exact hc) (by
        rw [List.map_map]
        have e2 : (l.map ((fun x : ByteArray => x.data.toList) ∘ fun x => (⟨x.toArray⟩ : ByteArray))) = l := by
          simp [Function.comp_def]
        rw [e2]; exact Nat.le_trans hj (by omega))
    rw [List.map_map, List.length_map] at this
    have e2 : (l.map ((fun x : ByteArray => x.data.toList) ∘ fun x => (⟨x.toArray⟩ : ByteArray))) = l := by
      simp [Function.comp_def]
    rw [e2] at this
    exact this
  · obtain rfl : l = [] := List.eq_nil_of_length_eq_zero (by omega)
    refine (Tryd.strings_Join_none A c ⟨#[32]⟩ X).mono ?_
    rintro e w' ⟨rfl, rfl⟩
    exact ⟨rfl, Ext.refl _⟩
set_option maxRecDepth 100000 in
set_option maxHeartbeats 4000000 in
theorem lshow_any (A : Option Addr) (c : Nat) (l : List Tk) (w : World) (hl : tot l ≤ 10000000) (h : SL tcf 4 w A l.length l) : Calls Tryd.prog 19 #[.slice A l.length c] w (StrPost (showP l) w) := by
  have HS := Lib.hid h
  have HJ := Lib.hid (Nat.le_trans (join_len l) hl)
  have hll := Nat.le_trans (len_tot l) hl
  have HTL := Lib.hid (fun k => Nat.le_trans (texts_len (l.take k)) (List.length_take_le' k l))
  clear h
  go_enter Tryd.func19, Tryd.ntmps19
  go_wp2
  go_loopw [3, 8] (fun s3 s8 w' => LsRel w l s3 s8 w') (fun _ s8 _ => tokM' l.length s8)
  case atStart => exact ⟨0, none, 0, by omega, rfl, rfl, OL.nil _ _ _, Ext.refl _⟩
  case round =>
    obtain ⟨k, A1, c1, hk, rfl, rfl, ho, hx⟩ := hrel
    have HO := Lib.hid ho
    have HX := Lib.hid hx
    clear ho hx
    by_cases hlt : k < l.length
    · have hlt' : (k : Int) < l.length := by omega
      obtain ⟨b1, o1, t, rfl, hb1, ht, p0, p1, p2, p3⟩ := (HS.out.ext HX.out).tok hlt
      have HST := Lib.hid (texts_step l k t ht)
      have hnl := HTL.out k
      have hbs := HX.out.lt
      clear ht
      obtain ⟨a, hta⟩ : ∃ a, a = texts (l.take k) := ⟨_, rfl⟩
      rw [← hta] at HST HO hnl ⊢
      clear hta
      by_cases h0 : t.kd = 0
      · have g0 : (t.kd != 0) = false := by rw [bne_eq_false_iff_eq]; exact h0
        have HF := Lib.hid (show texts (l.take (k + 1)) = a by rw [HST.out, if_pos h0, List.append_nil])
        clear h0
        go_wp2
        exact ⟨⟨k + 1, A1, c1, by omega, rfl, by rw [HF.out], by rw [HF.out]; exact HO.out.ext ((Ext.refl _).alloc _), HX.out.alloc _⟩, by simp only [tokM']; omega⟩
      · have g0 : (t.kd != 0) = true := by rw [bne_iff_ne]; exact h0
        have HF := Lib.hid (show texts (l.take (k + 1)) = a ++ [t.tx] by rw [HST.out, if_neg h0])
        clear h0
        obtain ⟨A5, c5, w5, hrun, ho5, hb5⟩ := ap39_one (wr.alloc (.cells #[.int .i64 t.kd, .int .i64 t.at_, .string ⟨t.tx.toArray⟩, .int .i64 t.nm] 36)) (HO.out.ext ((Ext.refl _).alloc _)) t.tx (wr.heap.size + 1) (by simp) (by omega) (by simp; omega)
        have HO5 := Lib.hid ho5
        have HB5 := Lib.hid hb5
        clear ho5 hb5
        go_wp2_with (first | (at_builtin; refine wpList_append_run (s := .tmp 15) (x := .tmp 18) hrun rfl rfl rfl rfl rfl ?_))
        exact ⟨⟨k + 1, A5, c5, by omega, rfl, by rw [HF.out, List.length_append]; rfl, by rw [HF.out]; exact HO5.out, Below.trans (HX.out.alloc _) HB5.out⟩, by simp only [tokM']; omega⟩
    · obtain rfl : k = l.length := by omega
      have hni : ¬ ((l.length : Int) < (l.length : Int)) := by omega
      rw [List.take_length] at HO ⊢
      have HC := Lib.hid (join_any wr HO.out (Nat.le_trans (texts_len l) hll) (Nat.le_trans HJ.out (by omega)))
      go_wp2_with (first | (go_at_call 38; refine HC.out.mono ?_; rintro e w1 ⟨rfl, hx⟩))
      go_ret
      exact ⟨rfl, HX.out.trans hx⟩
theorem join_emp {xs : List (List UInt8)} (h : xs = []) : Lib.join xs [32] = [] := by rw [h]; rfl
def RsRel (l : List Tk) (s3 s4 s5 : Value) : Prop :=
  ∃ (k : Nat) (S : ByteArray), k ≤ l.length ∧ s5 = .int .i64 k ∧ s3 = .string S ∧ s4 = .bool (decide (texts (l.take k) = [])) ∧ S.data.toList = Lib.join (texts (l.take k)) [32]
theorem app_list (a b : ByteArray) : (a ++ b).data.toList = a.data.toList ++ b.data.toList := by simp
set_option maxRecDepth 100000 in
set_option maxHeartbeats 4000000 in
theorem rshow_any (A : Option Addr) (c : Nat) (l : List Tk) (w : World) (hl : tot l ≤ 10000000) (h : SL tcf 4 w A l.length l) : Calls Tryd.prog 20 #[.slice A l.length c] w (StrPost (showP l) w) := by
  have HS := Lib.hid h
  have hll := Nat.le_trans (len_tot l) hl
  clear h
  go_enter Tryd.func20, Tryd.ntmps20
  go_wp2
  go_loop [3, 4, 5] (fun s3 s4 s5 => RsRel l s3 s4 s5) (fun _ _ s5 => tokM' l.length s5)
  case atStart => exact ⟨0, ⟨#[]⟩, by omega, rfl, rfl, rfl, rfl⟩
  case round =>
    obtain ⟨k, S, hk, rfl, rfl, rfl, hS⟩ := hrel
    have HSS := Lib.hid hS
    clear hS
    by_cases hlt : k < l.length
    · have hlt' : (k : Int) < l.length := by omega
      obtain ⟨b1, o1, t, rfl, hb1, ht, p0, p1, p2, p3⟩ := HS.out.tok hlt
      have HST := Lib.hid (texts_step l k t ht)
      have hsz : S.size + (t.tx.length + 1) ≤ 10000000 := by
        have h1 := tot_step l k t ht
        have h2 := join_len (l.take k)
        rw [← HSS.out, list_size] at h2
        omega
      clear ht
      have hts : (⟨t.tx.toArray⟩ : ByteArray).size = t.tx.length := rfl
      obtain ⟨X, hX⟩ : ∃ X : ByteArray, X = ⟨t.tx.toArray⟩ := ⟨_, rfl⟩
      have hXl : X.data.toList = t.tx := by rw [hX]
      rw [← hX] at p2 hts
      have hs1 : ¬ 9223372036854775807 < S.size + 1 := by omega
      have hs2 : ¬ 9223372036854775807 < S.size + 1 + X.size := by omega
      have hs3 : ¬ 9223372036854775807 < S.size + X.size := by omega
      have HXL := Lib.hid hXl
      clear hX hXl hts hsz
      by_cases h0 : t.kd = 0
      · have g0 : (t.kd == 0) = true := by rw [beq_iff_eq]; exact h0
        have HF := Lib.hid (show texts (l.take (k + 1)) = texts (l.take k) by rw [HST.out, if_pos h0, List.append_nil])
        clear h0
        go_wp2
        exact ⟨⟨k + 1, S, by omega, rfl, rfl, by rw [HF.out], by rw [HF.out]; exact HSS.out⟩, by simp only [tokM']; omega⟩
      · have g0 : (t.kd == 0) = false := by rw [beq_eq_false_iff_ne]; exact h0
        have hf : texts (l.take (k + 1)) = texts (l.take k) ++ [t.tx] := by rw [HST.out, if_neg h0]
        have HN := Lib.hid (show decide (texts (l.take (k + 1)) = []) = false by rw [hf]; simp)
        have hj := join_snoc (texts (l.take k)) t.tx [32]
        rw [← hf] at hj
        cases hb : decide (texts (l.take k) = []) with
        | true =>
          have he := of_decide_eq_true hb
          have HF := Lib.hid (show (S ++ X).data.toList = Lib.join (texts (l.take (k + 1))) [32] by
            rw [hj, if_pos he, app_list, HSS.out, HXL.out, join_emp he]; rfl)
          clear h0 hf hj hb he
          go_wp2
          exact ⟨⟨k + 1, S ++ X, by omega, rfl, rfl, by rw [HN.out], HF.out⟩, by simp only [tokM']; omega⟩
        | false =>
          have he := of_decide_eq_false hb
          have HF := Lib.hid (show (S ++ ⟨#[32]⟩ ++ X).data.toList = Lib.join (texts (l.take (k + 1))) [32] by
            rw [hj, if_neg he, app_list, app_list, HSS.out, HXL.out]; simp)
          clear h0 hf hj hb he
          go_wp2
          exact ⟨⟨k + 1, S ++ ⟨#[32]⟩ ++ X, by omega, rfl, rfl, by rw [HN.out], HF.out⟩, by simp only [tokM']; omega⟩
    · obtain rfl : k = l.length := by omega
      have hni : ¬ ((l.length : Int) < (l.length : Int)) := by omega
      go_wp2
      go_ret
      exact ⟨congrArg (fun z => Ending.returned (.string z)) (by
        have := HSS.out
        rw [List.take_length] at this
        unfold showP; rw [← this]), Ext.refl _⟩
end Go.Proofs.YtbmcplnfamgpcaaDoor
