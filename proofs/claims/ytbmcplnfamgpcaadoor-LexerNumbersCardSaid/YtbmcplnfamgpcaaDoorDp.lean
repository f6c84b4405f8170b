/- The contracts of date.Day and of the closure of date.Parse. -/
import Derived.Test.YtbmcplnfamgpcaaDoorDy
import Derived.Lib.ConvBytes
import Derived.Lib.AtoiErrMem
namespace Go.Proofs.YtbmcplnfamgpcaaDoor
open Go Go.RowKit

def DayPost (y m d : Nat) (w : World) (e : Ending) (w' : World) : Prop :=
  e = .returned (.tuple #[.int .i64 (if dateB y m d then dayNo y m d else 0 : Nat), .int .i64 (chkE y m d)]) ∧ Ext w w'
theorem date_iff {y m d : Nat} (h : dateB y m d = true) : 1 ≤ y ∧ y ≤ 9999 ∧ 1 ≤ m ∧ m ≤ 12 ∧ 1 ≤ d ∧ d ≤ 31 := by
  simp only [dateB, Bool.and_eq_true, decide_eq_true_eq] at h
  have := mlen_le y m
  omega
set_option maxHeartbeats 4000000 in
set_option maxRecDepth 100000 in
theorem day_any (y m d : Nat) (w : World) (hy : y ≤ 100000) (hm : m ≤ 1000) (hd : d ≤ 1000) (hL : EnvL w) : Calls Tryd.prog 70 #[.agg #[.int .i64 y, .int .i64 m, .int .i64 d]] w (DayPost y m d w) := by
  have HC := Lib.hid (fun X (hX : Ext w X) => check_any y m d X hy hm hd (hL.ext hX))
  cases hb : dateB y m d with
  | true =>
    have hi := date_iff hb
    have HN := Lib.hid (fun X => number_any y m d X hi.1 hi.2.1 hi.2.2.1 hi.2.2.2.1 hi.2.2.2.2.2)
    rw [dayNo_mar hi.1 hi.2.2.1 hi.2.2.2.1 hi.2.2.2.2.1] at HN
    have hce : chkE y m d = 0 := by rw [chkE, hb]; rfl
    have HE := Lib.hid hce
    have HB := Lib.hid hb
    rw [hce] at HC
    clear hi hb hce
    go_enter Tryd.func70, Tryd.ntmps70
    go_wp2_with (first | (go_at_call 84; refine (HC.out _ ((Ext.refl _).alloc _)).mono ?_; rintro e w1 ⟨rfl, hx⟩; have hc1 := hx.cells.1 w.heap.size; have hx0 := ((Ext.refl w).alloc _).trans hx) | (go_at_call 85; refine (HN.out _).mono ?_; rintro e w2 ⟨rfl, hx2⟩))
    refine bodyPost_ret (v := .tuple #[.int .i64 (dayNo y m d : Nat), .int .i64 0]) (by simp [results, Tryd.results70, go_sem, *]) rfl ?_
    exact ⟨by rw [HE.out, HB.out]; rfl, hx0.trans hx2⟩
  | false =>
    have hce : chkE y m d = 5 := by rw [chkE, hb]; rfl
    have HE := Lib.hid hce
    have HB := Lib.hid hb
    rw [hce] at HC
    clear hb hce
    go_enter Tryd.func70, Tryd.ntmps70
    go_wp2_with (first | (go_at_call 84; refine (HC.out _ ((Ext.refl _).alloc _)).mono ?_; rintro e w1 ⟨rfl, hx⟩; have hc1 := hx.cells.1 w.heap.size; have hx0 := ((Ext.refl w).alloc _).trans hx))
    refine bodyPost_ret (v := .tuple #[.int .i64 0, .int .i64 5]) (by simp [results, Tryd.results70, go_sem, *]) rfl ?_
    exact ⟨by rw [HE.out, HB.out]; rfl, hx0⟩
/-- The captured variables of date.Parse: the text, and the error. -/
structure PBox (W : World) (b c : Nat) (s : ByteArray) : Prop where
  text : W.cell? ⟨b, 0, none⟩ = some (.string s)
  err : W.cell? ⟨c, 0, none⟩ = some (.int .i64 0)
  lb : b < W.heap.size
  lc : c < W.heap.size
theorem PBox.ext {W W' : World} {b c : Nat} {s : ByteArray} (h : PBox W b c s) (hx : Ext W W') : PBox W' b c s := by
  obtain ⟨q, _⟩ := hx.cells
  exact ⟨by rw [q _ _ h.lb]; exact h.text, by rw [q _ _ h.lc]; exact h.err, Nat.lt_of_lt_of_le h.lb hx.lt, Nat.lt_of_lt_of_le h.lc hx.lt⟩
def PartRel (L : List UInt8) (n i : Value) : Prop := ∃ j, j ≤ L.length ∧ i = .int .i64 j ∧ n = .int .i64 (dval 0 (L.take j) : Nat)
def partM (k : Value) : Nat := match k with | .int _ z => 4 - z.toNat | _ => 0
theorem dval_take {L : List UInt8} {j : Nat} (h : j < L.length) : dval 0 (L.take (j + 1)) = 10 * dval 0 (L.take j) + ((L.getD j 0).toNat - 48) := by
  have e : L.take (j + 1) = L.take j ++ [L.getD j 0] := by rw [List.take_add_one]; simp [List.getD, h]
  rw [e, dval_snoc]
theorem dval_lt (L : List UInt8) : ∀ n, L.length ≤ n → L.all dig = true → dval 0 L < 10 ^ n := by
  intro n
  induction n generalizing L with
  | zero => intro h _; rw [List.length_eq_zero_iff.1 (Nat.le_zero.1 h)]; decide
  | succ n ih =>
    intro h hd
    rcases List.eq_nil_or_concat L with rfl | ⟨r, c, rfl⟩
    · rw [dval_nil]; exact Nat.pow_pos (by decide)
    · rw [List.concat_eq_append] at h hd ⊢
      rw [dval_snoc]
      rw [List.all_append, Bool.and_eq_true] at hd
      have h1 := ih r (by rw [List.length_append] at h; simp at h; omega) hd.1
      have hc : 48 ≤ c.toNat ∧ c.toNat ≤ 57 := by have := hd.2; simp at this; exact dig_iff.1 this
      rw [Nat.pow_succ]; omega
theorem extract_list (s : ByteArray) (x y : Nat) : (s.extract x y).data.toList = (s.data.toList.drop x).take (y - x) := by
  rw [ByteArray.data_extract, Array.toList_extract]
set_option maxHeartbeats 4000000 in
set_option maxRecDepth 100000 in
theorem part_any (W : World) (b c : Nat) (s : ByteArray) (x y : Nat) (hB : PBox W b c s) (hxy : x ≤ y) (hy : y ≤ s.size) (hyx : y - x ≤ 4) (hd : ((s.data.toList.drop x).take (y - x)).all dig = true) :
    Calls Tryd.prog 69 #[.int .i64 x, .int .i64 y, .pointer (some ⟨b, 0, none⟩), .pointer (some ⟨c, 0, none⟩)] W (IntPost (dval 0 ((s.data.toList.drop x).take (y - x)) : Nat) W) := by
  have c1 := hB.text
  have hcv := Lib.run_convert_string_bytes (P := Tryd.prog) W 9 30 5 (s.extract x y) (u := .string) Tryd.underlying9 Tryd.underlying30 Tryd.underlying5
  have hcl : ∀ j, j < (s.extract x y).size → (Lib.bytesWorld W 5 (s.extract x y)).cell? ⟨W.heap.size, j, none⟩ = some (.int .u8 (((s.data.toList.drop x).take (y - x)).getD j 0).toNat) := fun j hj => by
    rw [Lib.bytesWorld_cell _ _ _ _ hj, extract_list]
  have hx : Ext W (Lib.bytesWorld W 5 (s.extract x y)) := Lib.bytesWorld_below _ _ _
  obtain ⟨L, hL⟩ : ∃ L, L = (s.data.toList.drop x).take (y - x) := ⟨_, rfl⟩
  have hlen : L.length = y - x := by rw [hL, List.length_take, List.length_drop, list_size]; omega
  have hsz : (s.extract x y).size = L.length := by rw [← list_size, extract_list, ← hL]
  rw [← hL] at hd hcl ⊢
  clear hL
  obtain ⟨V, hV⟩ : ∃ V, V = Lib.bytesWorld W 5 (s.extract x y) := ⟨_, rfl⟩
  rw [← hV] at hcv hcl hx
  rw [hsz] at hcv hcl
  obtain ⟨C, hC⟩ : ∃ C, C = grownCap W L.length 0 5 := ⟨_, rfl⟩
  rw [← hC] at hcv
  clear hV hC hsz
  have HD := Lib.hid hd
  have HX := Lib.hid hx
  have HCL := Lib.hid hcl
  clear hcl hd hx
  have hl4 : L.length ≤ 4 := by omega
  clear hlen
  go_enter Tryd.func69, Tryd.ntmps69
  go_wp2
  go_loop [7, 16] (fun n i => PartRel L n i) (fun _ i => partM i)
  case atStart => exact ⟨0, by omega, rfl, rfl⟩
  case round =>
    obtain ⟨j, hj, rfl, rfl⟩ := hrel
    by_cases hjl : j < L.length
    · have hcell := HCL.out j hjl
      have hdg := HD.out
      have hst := dval_take hjl
      have hk : 48 ≤ (L.getD j 0).toNat ∧ (L.getD j 0).toNat ≤ 57 := by
        have hm : L.getD j 0 ∈ L := by simp [List.getD, hjl]
        exact dig_iff.1 (List.all_eq_true.1 hdg _ hm)
      have hdv : dval 0 (L.take j) < 10 ^ 4 := dval_lt _ 4 (by rw [List.length_take]; omega) (by
        rw [List.all_eq_true] at hdg ⊢; exact fun a ha => hdg a (List.mem_of_mem_take ha))
      obtain ⟨k, hkk⟩ : ∃ k, k = (L.getD j 0).toNat := ⟨_, rfl⟩
      obtain ⟨u, huu⟩ : ∃ u, u = dval 0 (L.take j) := ⟨_, rfl⟩
      rw [← hkk] at hcell hk hst
      rw [← huu] at hdv hst ⊢
      have hu4 : u < 10000 := hdv
      have hk1 : ¬ (k : Int) < 48 := by omega
      have hk2 : ¬ (57 : Int) < (k : Int) := by omega
      have HST := Lib.hid hst
      clear hst hdv hdg hkk huu
      go_wp2
      exact ⟨⟨j + 1, by omega, rfl, by rw [HST.out]; congr 1; omega⟩, by simp [partM]; omega⟩
    · obtain rfl : j = L.length := by omega
      go_wp2
      go_ret
      exact ⟨ret_int rfl, HX.out⟩
end Go.Proofs.YtbmcplnfamgpcaaDoor
