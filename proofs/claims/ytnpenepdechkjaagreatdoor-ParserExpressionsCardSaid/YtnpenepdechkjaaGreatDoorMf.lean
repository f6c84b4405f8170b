/- The production's Show. -/
import Derived.Test.YtnpenepdechkjaaGreatDoorMe
import Derived.Deep.RegionHeld3
import Derived.Test.YtnpenepdechkjaaGreatDoorMa
import Derived.Shelf.Strings.BuilderX
import Derived.Lib.Builder
import Derived.Lib.AppendStr
import Derived.Lib.UnsafeStr
import Derived.Laws.Externs
namespace Go.Proofs.YtnpenepdechkjaaGreatDoor
open Go Go.RowKit

theorem sh_num (n : Int) : showT (.nd 1 n [] []) = Lib.itoa n := by simp [showT, showN]
theorem sh_bool (n : Int) : showT (.nd 2 n [] []) = if n = 1 then wTrue else wFalse := by simp [showT, showN]
theorem sh_day (n : Int) : showT (.nd 3 n [] []) = 64 :: prL n.toNat := by simp [showT, showN]
theorem sh_field (s : List UInt8) : showT (.nd 4 0 s []) = s := by simp [showT, showN]
theorem sh_not (a : Tr) : showT (.nd 5 0 wNot [a]) = [110, 111, 116, 32] ++ opL (lvT a) 3 (showT a) := by simp [showT, showTs, showN]
theorem sh_min (a : Tr) : showT (.nd 5 0 wMinus [a]) = [45] ++ opL (lvT a) 7 (showT a) := by simp [showT, showTs, showN, show ¬ wMinus = wNot by decide]
theorem sh_ite (a b c : Tr) : showT (.nd 9 0 [] [a, b, c]) = [105, 102, 32] ++ showT a ++ [32, 116, 104, 101, 110, 32] ++ showT b ++ [32, 101, 108, 115, 101, 32] ++ showT c ++ [32, 101, 110, 100] := by simp [showT, showTs, showN]
theorem sh_call (s : List UInt8) (ks : List Tr) : showT (.nd 10 0 s ks) = s ++ [40] ++ Lib.join (ks.map showT) [44, 32] ++ [41] := by simp [showT, showN, showTs_map]
theorem sh_bin (s : List UInt8) (a b : Tr) : showT (.nd 6 0 s [a, b]) = opL (lvT a) (leftL (lvOf s)) (showT a) ++ [32] ++ s ++ [32] ++ opL (lvT b) (lvOf s + 1) (showT b) := by simp [showT, showTs, showN, lvN]
theorem sh_aft (s : List UInt8) (a b : Tr) : showT (.nd 7 0 s [a, b]) = opL (lvT a) 5 (showT a) ++ [32, 43, 32] ++ opL (lvT b) 6 (showT b) ++ [32] ++ s := by simp [showT, showTs, showN, lvN, leftL]
theorem sh_bef (s : List UInt8) (a b : Tr) : showT (.nd 8 0 s [a, b]) = opL (lvT a) 5 (showT a) ++ [32, 45, 32] ++ opL (lvT b) 6 (showT b) ++ [32] ++ s := by simp [showT, showTs, showN, lvN, leftL]
theorem pitoa_any (n : Int) (h : 0 ≤ n ∧ n ≤ 2147483647) (w : World) (htab : Tab w) : Calls Tryz.prog 54 #[.int .i64 n] w (StrPost (Lib.itoa n) w) := by
  refine (Tryz.strconv_Itoa n (by omega) (by omega) w (htab w (Ext.refl w))).mono ?_
  rintro e w' ⟨rfl, k, os, rfl⟩
  exact ⟨rfl, Lib.below_grow _ _ (Nat.le_refl _) k os⟩
theorem cells_ext {W : World} {g o : Nat} {v : Value} (h : W.cell? ⟨g, o, none⟩ = some v) {X : World} (hX : Ext W X) : X.cell? ⟨g, o, none⟩ = some v := (hX.cells.1 g o (block_lt_of_cell h)).trans h
/-- A kid's cells in every later world. -/
theorem kid_at {W : World} {P : Nat → Prop} {d : Nd} {k n : Int} {s : List UInt8} {ks : List Tr} (h : Rep W P d (.nd k n s ks)) (i : Nat) (t : Tr) (ht : ks[i]? = some t) :
    ∃ (g off : Nat) (d' : Nd), d.A = some ⟨g, off, none⟩ ∧ Rep W P d' t ∧ ∀ X, Ext W X → X.cell? ⟨g, off + i * 4, none⟩ = some (.int .i64 d'.k) ∧ X.cell? ⟨g, off + i * 4 + 1, none⟩ = some (.int .i64 d'.n) ∧
      X.cell? ⟨g, off + i * 4 + 2, none⟩ = some (.string d'.s) ∧ X.cell? ⟨g, off + i * 4 + 3, none⟩ = some (.slice d'.A d'.m d'.c) := by
  obtain ⟨g, off, d', t', h1, _, h3, _, h5, c0, c1, c2, c3⟩ := h.kid (i := i) (List.getElem?_eq_some_iff.1 ht).1
  rw [ht] at h3
  injection h3 with h3
  subst h3
  exact ⟨g, off, d', h1, h5, fun X hX => ⟨cells_ext c0 hX, cells_ext c1 hX, cells_ext c2 hX, cells_ext c3 hX⟩⟩
theorem lv_short {s : List UInt8} (h : 1 ≤ lvOf s) : s.length ≤ 10 := by
  unfold lvOf at h
  split at h
  · rename_i h1; rw [h1]; decide
  split at h
  · rename_i h1; rw [h1]; decide
  split at h
  · rename_i h1
    simp only [cmpOps, List.mem_cons, List.not_mem_nil, or_false] at h1
    rcases h1 with rfl | rfl | rfl | rfl | rfl | rfl <;> decide
  split at h
  · rename_i h1; rcases h1 with rfl | rfl <;> decide
  split at h
  · rename_i h1; rw [h1]; decide
  · omega
theorem unit_short {s : List UInt8} (h : s ∈ units) : s.length ≤ 10 := by
  simp only [units, List.mem_cons, List.not_mem_nil, or_false] at h
  rcases h with rfl | rfl | rfl | rfl <;> decide
theorem fun_short {s : List UInt8} (h : s ∈ functions) : s.length ≤ 10 := by
  simp only [functions, List.mem_cons, List.not_mem_nil, or_false] at h
  rcases h with rfl | rfl | rfl | rfl | rfl <;> decide
set_option maxHeartbeats 8000000 in
set_option maxRecDepth 100000 in
theorem pshow_step {M : Nat} (hS : SC M) : SC (M + 1) := by
  intro t d P W ht hg hb hr htab
  have HTB := Lib.hid htab
  have HS := Lib.hid hS
  clear htab hS
  cases hg with
  | num n h =>
    rw [sh_num]
    obtain ⟨e1, e2, e3, e4⟩ := hr.fields
    simp only [List.length_nil] at e4
    have HR := Lib.hid hr
    obtain ⟨dk, dn, ds, dA, dm, dc⟩ := d
    simp only at e1 e2 e3 e4 ⊢
    subst e1 e2 e4
    clear hr
    have HI := Lib.hid (fun X (hX : Ext W X) => pitoa_any dn h X (HTB.out.ext hX))
    have HDS := Lib.hid e3
    obtain ⟨LV, hLV⟩ : ∃ L, L = lvN 1 [] := ⟨_, rfl⟩
    have HL := Lib.hid (fun X => plev_any ⟨1, dn, ds, dA, 0, dc⟩ [] e3 X)
    simp only at HL
    rw [← hLV] at HL
    have HLV := Lib.hid hLV
    clear hLV
    have hx0 : Ext W (W.alloc (.cells #[.int .i64 1, .int .i64 dn, .string ds, .slice dA 0 dc] 31)) := (Ext.refl W).alloc _
    have hna : NX (W.alloc (.cells #[.int .i64 1, .int .i64 dn, .string ds, .slice dA 0 dc] 31)) W.heap.size 1 dn ds (.slice dA 0 dc) := heap_alloc_new _ _
    have HX0 := Lib.hid hx0
    have HNA := Lib.hid hna
    clear hx0 hna
    clear e3 ht hb h
    go_enter Tryz.func26, Tryz.ntmps26
    go_wp2_with (first
      | (go_at_call 53; refine (HL.out _).mono ?_; rintro e w1 ⟨rfl, hx1⟩; obtain ⟨_, k0, k1, k2, k3, _, _, _, _⟩ := (NX.mv (b := W.heap.size + 1) HNA.out (Mv.of_ext hx1) (by omega)).nb; have HX1 := Lib.hid (HX0.out.trans hx1); clear hx1)
      | (go_at_call 54; refine (HI.out _ HX1.out).mono ?_; rintro e w2 ⟨rfl, hx2⟩))
    go_ret
    exact ⟨rfl, HX1.out.trans hx2⟩
  | bool n h =>
    rw [sh_bool]
    obtain ⟨e1, e2, e3, e4⟩ := hr.fields
    simp only [List.length_nil] at e4
    have HR := Lib.hid hr
    obtain ⟨dk, dn, ds, dA, dm, dc⟩ := d
    simp only at e1 e2 e3 e4 ⊢
    subst e1 e2 e4
    clear hr
    have HDS := Lib.hid e3
    obtain ⟨LV, hLV⟩ : ∃ L, L = lvN 2 [] := ⟨_, rfl⟩
    have HL := Lib.hid (fun X => plev_any ⟨2, dn, ds, dA, 0, dc⟩ [] e3 X)
    simp only at HL
    rw [← hLV] at HL
    have HLV := Lib.hid hLV
    clear hLV
    have hx0 : Ext W (W.alloc (.cells #[.int .i64 2, .int .i64 dn, .string ds, .slice dA 0 dc] 31)) := (Ext.refl W).alloc _
    have hna : NX (W.alloc (.cells #[.int .i64 2, .int .i64 dn, .string ds, .slice dA 0 dc] 31)) W.heap.size 2 dn ds (.slice dA 0 dc) := heap_alloc_new _ _
    have HX0 := Lib.hid hx0
    have HNA := Lib.hid hna
    clear hx0 hna
    clear e3 ht hb
    rcases h with rfl | rfl
    · rw [if_neg (by decide)]
      have HI := Lib.hid (fun X => Tryz.strconv_FormatBool false X)
      go_enter Tryz.func26, Tryz.ntmps26
      go_wp2_with (first
        | (go_at_call 53; refine (HL.out _).mono ?_; rintro e w1 ⟨rfl, hx1⟩; obtain ⟨_, k0, k1, k2, k3, _, _, _, _⟩ := (NX.mv (b := W.heap.size + 1) HNA.out (Mv.of_ext hx1) (by omega)).nb; have HX1 := Lib.hid (HX0.out.trans hx1); clear hx1)
        | (go_at_call 55; refine (HI.out _).mono ?_; rintro e w2 ⟨rfl, rfl⟩))
      go_ret
      exact ⟨rfl, HX1.out⟩
    · rw [if_pos rfl]
      have HI := Lib.hid (fun X => Tryz.strconv_FormatBool true X)
      go_enter Tryz.func26, Tryz.ntmps26
      go_wp2_with (first
        | (go_at_call 53; refine (HL.out _).mono ?_; rintro e w1 ⟨rfl, hx1⟩; obtain ⟨_, k0, k1, k2, k3, _, _, _, _⟩ := (NX.mv (b := W.heap.size + 1) HNA.out (Mv.of_ext hx1) (by omega)).nb; have HX1 := Lib.hid (HX0.out.trans hx1); clear hx1)
        | (go_at_call 55; refine (HI.out _).mono ?_; rintro e w2 ⟨rfl, rfl⟩))
      go_ret
      exact ⟨rfl, HX1.out⟩
  | day n h =>
    rw [sh_day]
    obtain ⟨m, rfl⟩ := Int.eq_ofNat_of_zero_le h.1
    have hmm : ((m : Nat) : Int).toNat = m := by omega
    rw [hmm]
    obtain ⟨e1, e2, e3, e4⟩ := hr.fields
    simp only [List.length_nil] at e4
    have HR := Lib.hid hr
    obtain ⟨dk, dn, ds, dA, dm, dc⟩ := d
    simp only at e1 e2 e3 e4 ⊢
    subst e1 e2 e4
    clear hr
    have HDS := Lib.hid e3
    obtain ⟨LV, hLV⟩ : ∃ L, L = lvN 3 [] := ⟨_, rfl⟩
    have HL := Lib.hid (fun X => plev_any ⟨3, ((m : Nat) : Int), ds, dA, 0, dc⟩ [] e3 X)
    simp only at HL
    rw [← hLV] at HL
    have HLV := Lib.hid hLV
    clear hLV
    have hx0 : Ext W (W.alloc (.cells #[.int .i64 3, .int .i64 ((m : Nat) : Int), .string ds, .slice dA 0 dc] 31)) := (Ext.refl W).alloc _
    have hna : NX (W.alloc (.cells #[.int .i64 3, .int .i64 ((m : Nat) : Int), .string ds, .slice dA 0 dc] 31)) W.heap.size 3 ((m : Nat) : Int) ds (.slice dA 0 dc) := heap_alloc_new _ _
    have HX0 := Lib.hid hx0
    have HNA := Lib.hid hna
    clear hx0 hna
    have hsz := prL_size (d := m) (by omega)
    have HI := Lib.hid (fun X (hX : Ext W X) => print_any m X (by omega) (HTB.out.ext hX))
    unfold StrPost at HI
    obtain ⟨S, hS⟩ : ∃ S, S = bs (prL m) := ⟨_, rfl⟩
    rw [show (⟨(prL m).toArray⟩ : ByteArray) = S from hS.symm] at HI
    have hSs : S.size = 10 := by rw [hS, bs_size, hsz]
    have q1 : ¬ 9223372036854775807 < 1 + S.size := by omega
    have HF := Lib.hid (show (⟨#[64]⟩ : ByteArray) ++ S = bs (64 :: prL m) from by rw [hS, show (⟨#[64]⟩ : ByteArray) = bs [64] from rfl, bs_app]; rfl)
    clear e3 ht hb h hS hsz hSs hmm
    go_enter Tryz.func26, Tryz.ntmps26
    go_wp2_with (first
      | (go_at_call 53; refine (HL.out _).mono ?_; rintro e w1 ⟨rfl, hx1⟩; obtain ⟨_, k0, k1, k2, k3, _, _, _, _⟩ := (NX.mv (b := W.heap.size + 1) HNA.out (Mv.of_ext hx1) (by omega)).nb; have HX1 := Lib.hid (HX0.out.trans hx1); clear hx1)
      | (go_at_call 50; refine (HI.out _ HX1.out).mono ?_; rintro e w2 ⟨rfl, hx2⟩))
    go_ret
    exact ⟨congrArg (fun z => Ending.returned (.string z)) HF.out, HX1.out.trans hx2⟩
  | field s h =>
    rw [sh_field]
    obtain ⟨e1, e2, e3, e4⟩ := hr.fields
    simp only [List.length_nil] at e4
    have HR := Lib.hid hr
    obtain ⟨dk, dn, ds, dA, dm, dc⟩ := d
    simp only at e1 e2 e3 e4 ⊢
    subst e1 e2 e4
    clear hr
    have HDS := Lib.hid e3
    obtain ⟨LV, hLV⟩ : ∃ L, L = lvN 4 s := ⟨_, rfl⟩
    have HL := Lib.hid (fun X => plev_any ⟨4, 0, ds, dA, 0, dc⟩ s e3 X)
    simp only at HL
    rw [← hLV] at HL
    have HLV := Lib.hid hLV
    clear hLV
    have hx0 : Ext W (W.alloc (.cells #[.int .i64 4, .int .i64 0, .string ds, .slice dA 0 dc] 31)) := (Ext.refl W).alloc _
    have hna : NX (W.alloc (.cells #[.int .i64 4, .int .i64 0, .string ds, .slice dA 0 dc] 31)) W.heap.size 4 0 ds (.slice dA 0 dc) := heap_alloc_new _ _
    have HX0 := Lib.hid hx0
    have HNA := Lib.hid hna
    clear hx0 hna
    clear e3 ht hb h
    go_enter Tryz.func26, Tryz.ntmps26
    go_wp2_with (first
      | (go_at_call 53; refine (HL.out _).mono ?_; rintro e w1 ⟨rfl, hx1⟩; obtain ⟨_, k0, k1, k2, k3, _, _, _, _⟩ := (NX.mv (b := W.heap.size + 1) HNA.out (Mv.of_ext hx1) (by omega)).nb; have HX1 := Lib.hid (HX0.out.trans hx1); clear hx1))
    go_ret
    exact ⟨congrArg (fun z => Ending.returned (.string z)) HDS.out, HX1.out⟩
  | una s a h ha =>
    rcases h with rfl | rfl
    · rw [sh_not]
      obtain ⟨e1, e2, e3, e4⟩ := hr.fields
      simp only [List.length_cons, List.length_nil, Nat.zero_add] at e4
      have HR := Lib.hid hr
      obtain ⟨dk, dn, ds, dA, dm, dc⟩ := d
      simp only at e1 e2 e3 e4 ⊢
      subst e1 e2 e4
      clear hr
      have HDS := Lib.hid e3
      obtain ⟨LV, hLV⟩ : ∃ L, L = lvN 5 wNot := ⟨_, rfl⟩
      have HL := Lib.hid (fun X => plev_any ⟨5, 0, ds, dA, 1, dc⟩ wNot e3 X)
      simp only at HL
      rw [← hLV] at HL
      have HLV := Lib.hid hLV
      clear hLV
      have hx0 : Ext W (W.alloc (.cells #[.int .i64 5, .int .i64 0, .string ds, .slice dA 1 dc] 31)) := (Ext.refl W).alloc _
      have hna : NX (W.alloc (.cells #[.int .i64 5, .int .i64 0, .string ds, .slice dA 1 dc] 31)) W.heap.size 5 0 ds (.slice dA 1 dc) := heap_alloc_new _ _
      have HX0 := Lib.hid hx0
      have HNA := Lib.hid hna
      clear hx0 hna
      simp only [tsz, tszs, shB, shBs] at ht hb
      have hlen := showT_len ha
      obtain ⟨g, off, d1, hA, hrep, hcl⟩ := kid_at HR.out 0 a rfl
      simp only [Nat.zero_mul, Nat.add_zero] at hcl
      simp only at hA
      subst hA
      have hop := fun X (hX : Ext W X) => pop_any HS.out a d1 P X (by omega) ha (by omega) (hrep.ext hX) (HTB.out.ext hX) LV (by rw [HLV.out]; exact Nat.le_trans (lvN_le _ _) (by omega))
      have hlv : LV = 3 := by rw [HLV.out]; decide
      unfold StrPost at hop
      obtain ⟨x, hx⟩ : ∃ x, x = opL (lvT a) LV (showT a) := ⟨_, rfl⟩
      obtain ⟨S, hSx⟩ : ∃ S, S = bs x := ⟨_, rfl⟩
      rw [← hx, show (⟨x.toArray⟩ : ByteArray) = S from hSx.symm] at hop
      have hxl := opL_len (lvT a) LV (showT a)
      rw [← hx] at hxl
      have hSs : S.size = x.length := by rw [hSx, bs_size]
      have q1 : ¬ 9223372036854775807 < 4 + S.size := by omega
      have HF := Lib.hid (show (⟨#[110, 111, 116, 32]⟩ : ByteArray) ++ S = bs ([110, 111, 116, 32] ++ opL (lvT a) 3 (showT a)) from by rw [hSx, hx, hlv, show (⟨#[110, 111, 116, 32]⟩ : ByteArray) = bs [110, 111, 116, 32] from rfl, bs_app])
      have HOP := Lib.hid hop
      have HCL := Lib.hid hcl
      have hb5 : (ds.toList == [110, 111, 116]) = true := by rw [HDS.out, bs_list]; rfl
      clear e3 ht hb hlen hop hcl hrep hx hSx hxl hSs hlv
      go_enter Tryz.func26, Tryz.ntmps26
      go_wp2_with (first
        | (go_at_call 53; refine (HL.out _).mono ?_; rintro e w1 ⟨rfl, hx1⟩; obtain ⟨_, k0, k1, k2, k3, _, _, _, _⟩ := (NX.mv (b := W.heap.size + 1) HNA.out (Mv.of_ext hx1) (by omega)).nb; have HX1 := Lib.hid (HX0.out.trans hx1); obtain ⟨p0, p1, p2, p3⟩ := HCL.out _ HX1.out; clear hx1)
        | (go_at_call 56; refine (HOP.out _ HX1.out).mono ?_; rintro e w2 ⟨rfl, hx2⟩))
      go_ret
      exact ⟨congrArg (fun z => Ending.returned (.string z)) HF.out, HX1.out.trans hx2⟩
    · rw [sh_min]
      obtain ⟨e1, e2, e3, e4⟩ := hr.fields
      simp only [List.length_cons, List.length_nil, Nat.zero_add] at e4
      have HR := Lib.hid hr
      obtain ⟨dk, dn, ds, dA, dm, dc⟩ := d
      simp only at e1 e2 e3 e4 ⊢
      subst e1 e2 e4
      clear hr
      have HDS := Lib.hid e3
      obtain ⟨LV, hLV⟩ : ∃ L, L = lvN 5 wMinus := ⟨_, rfl⟩
      have HL := Lib.hid (fun X => plev_any ⟨5, 0, ds, dA, 1, dc⟩ wMinus e3 X)
      simp only at HL
      rw [← hLV] at HL
      have HLV := Lib.hid hLV
      clear hLV
      have hx0 : Ext W (W.alloc (.cells #[.int .i64 5, .int .i64 0, .string ds, .slice dA 1 dc] 31)) := (Ext.refl W).alloc _
      have hna : NX (W.alloc (.cells #[.int .i64 5, .int .i64 0, .string ds, .slice dA 1 dc] 31)) W.heap.size 5 0 ds (.slice dA 1 dc) := heap_alloc_new _ _
      have HX0 := Lib.hid hx0
      have HNA := Lib.hid hna
      clear hx0 hna
      simp only [tsz, tszs, shB, shBs] at ht hb
      have hlen := showT_len ha
      obtain ⟨g, off, d1, hA, hrep, hcl⟩ := kid_at HR.out 0 a rfl
      simp only [Nat.zero_mul, Nat.add_zero] at hcl
      simp only at hA
      subst hA
      have hop := fun X (hX : Ext W X) => pop_any HS.out a d1 P X (by omega) ha (by omega) (hrep.ext hX) (HTB.out.ext hX) LV (by rw [HLV.out]; exact Nat.le_trans (lvN_le _ _) (by omega))
      have hlv : LV = 7 := by rw [HLV.out]; decide
      unfold StrPost at hop
      obtain ⟨x, hx⟩ : ∃ x, x = opL (lvT a) LV (showT a) := ⟨_, rfl⟩
      obtain ⟨S, hSx⟩ : ∃ S, S = bs x := ⟨_, rfl⟩
      rw [← hx, show (⟨x.toArray⟩ : ByteArray) = S from hSx.symm] at hop
      have hxl := opL_len (lvT a) LV (showT a)
      rw [← hx] at hxl
      have hSs : S.size = x.length := by rw [hSx, bs_size]
      have q1 : ¬ 9223372036854775807 < 1 + S.size := by omega
      have HF := Lib.hid (show (⟨#[45]⟩ : ByteArray) ++ S = bs ([45] ++ opL (lvT a) 7 (showT a)) from by rw [hSx, hx, hlv, show (⟨#[45]⟩ : ByteArray) = bs [45] from rfl, bs_app])
      have HOP := Lib.hid hop
      have HCL := Lib.hid hcl
      have hb5 : (ds.toList == [110, 111, 116]) = false := by rw [HDS.out, bs_list]; rfl
      clear e3 ht hb hlen hop hcl hrep hx hSx hxl hSs hlv
      go_enter Tryz.func26, Tryz.ntmps26
      go_wp2_with (first
        | (go_at_call 53; refine (HL.out _).mono ?_; rintro e w1 ⟨rfl, hx1⟩; obtain ⟨_, k0, k1, k2, k3, _, _, _, _⟩ := (NX.mv (b := W.heap.size + 1) HNA.out (Mv.of_ext hx1) (by omega)).nb; have HX1 := Lib.hid (HX0.out.trans hx1); obtain ⟨p0, p1, p2, p3⟩ := HCL.out _ HX1.out; clear hx1)
        | (go_at_call 56; refine (HOP.out _ HX1.out).mono ?_; rintro e w2 ⟨rfl, hx2⟩))
      go_ret
      exact ⟨congrArg (fun z => Ending.returned (.string z)) HF.out, HX1.out.trans hx2⟩
  | ite a b c ha hb1 hc =>
    rw [sh_ite]
    obtain ⟨e1, e2, e3, e4⟩ := hr.fields
    simp only [List.length_cons, List.length_nil, Nat.zero_add, Nat.reduceAdd] at e4
    have HR := Lib.hid hr
    obtain ⟨dk, dn, ds, dA, dm, dc⟩ := d
    simp only at e1 e2 e3 e4 ⊢
    subst e1 e2 e4
    clear hr
    have HDS := Lib.hid e3
    obtain ⟨LV, hLV⟩ : ∃ L, L = lvN 9 [] := ⟨_, rfl⟩
    have HL := Lib.hid (fun X => plev_any ⟨9, 0, ds, dA, 3, dc⟩ [] e3 X)
    simp only at HL
    rw [← hLV] at HL
    have HLV := Lib.hid hLV
    clear hLV
    have hx0 : Ext W (W.alloc (.cells #[.int .i64 9, .int .i64 0, .string ds, .slice dA 3 dc] 31)) := (Ext.refl W).alloc _
    have hna : NX (W.alloc (.cells #[.int .i64 9, .int .i64 0, .string ds, .slice dA 3 dc] 31)) W.heap.size 9 0 ds (.slice dA 3 dc) := heap_alloc_new _ _
    have HX0 := Lib.hid hx0
    have HNA := Lib.hid hna
    clear hx0 hna
    simp only [tsz, tszs, shB, shBs] at ht hb
    have hla := showT_len ha
    have hlb := showT_len hb1
    have hlc := showT_len hc
    have HC := Lib.hid (fun X (hX : Ext W X) => (show Calls Tryz.prog 57 #[.slice dA 3 dc] X (AlPost [showT a, showT b, showT c] X) from pall_any HS.out 9 0 [] [a, b, c] ⟨9, 0, ds, dA, 3, dc⟩ P X (fun t ht => by
      simp only [List.mem_cons, List.not_mem_nil, or_false] at ht
      rcases ht with rfl | rfl | rfl
      · exact ⟨by omega, ha, by omega⟩
      · exact ⟨by omega, hb1, by omega⟩
      · exact ⟨by omega, hc, by omega⟩) (by simp) (HR.out.ext hX) (HTB.out.ext hX)))
    obtain ⟨x0, hx0⟩ : ∃ x, x = showT a := ⟨_, rfl⟩
    obtain ⟨x1, hx1⟩ : ∃ x, x = showT b := ⟨_, rfl⟩
    obtain ⟨x2, hx2⟩ : ∃ x, x = showT c := ⟨_, rfl⟩
    rw [← hx0, ← hx1, ← hx2] at HC ⊢
    rw [← hx0] at hla
    rw [← hx1] at hlb
    rw [← hx2] at hlc
    obtain ⟨S0, hS0⟩ : ∃ S, S = bs x0 := ⟨_, rfl⟩
    obtain ⟨S1, hS1⟩ : ∃ S, S = bs x1 := ⟨_, rfl⟩
    obtain ⟨S2, hS2⟩ : ∃ S, S = bs x2 := ⟨_, rfl⟩
    have z0 : S0.size = x0.length := by rw [hS0, bs_size]
    have z1 : S1.size = x1.length := by rw [hS1, bs_size]
    have z2 : S2.size = x2.length := by rw [hS2, bs_size]
    have q0 : ¬ 9223372036854775807 < 3 + S0.size := by omega
    have q1 : ¬ 9223372036854775807 < 3 + S0.size + 6 := by omega
    have q2 : ¬ 9223372036854775807 < 3 + S0.size + 6 + S1.size := by omega
    have q3 : ¬ 9223372036854775807 < 3 + S0.size + 6 + S1.size + 6 := by omega
    have q4 : ¬ 9223372036854775807 < 3 + S0.size + 6 + S1.size + 6 + S2.size := by omega
    have q5 : ¬ 9223372036854775807 < 3 + S0.size + 6 + S1.size + 6 + S2.size + 4 := by omega
    obtain ⟨R, hR⟩ : ∃ R, R = [105, 102, 32] ++ x0 ++ [32, 116, 104, 101, 110, 32] ++ x1 ++ [32, 101, 108, 115, 101, 32] ++ x2 ++ [32, 101, 110, 100] := ⟨_, rfl⟩
    rw [← hR]
    have HF := Lib.hid (show (⟨#[105, 102, 32]⟩ : ByteArray) ++ S0 ++ ⟨#[32, 116, 104, 101, 110, 32]⟩ ++ S1 ++ ⟨#[32, 101, 108, 115, 101, 32]⟩ ++ S2 ++ ⟨#[32, 101, 110, 100]⟩ = bs R from by rw [hR, hS0, hS1, hS2, show (⟨#[105, 102, 32]⟩ : ByteArray) = bs [105, 102, 32] from rfl, show (⟨#[32, 116, 104, 101, 110, 32]⟩ : ByteArray) = bs [32, 116, 104, 101, 110, 32] from rfl, show (⟨#[32, 101, 108, 115, 101, 32]⟩ : ByteArray) = bs [32, 101, 108, 115, 101, 32] from rfl, show (⟨#[32, 101, 110, 100]⟩ : ByteArray) = bs [32, 101, 110, 100] from rfl, bs_app, bs_app, bs_app, bs_app, bs_app, bs_app])
    have H0 := Lib.hid hS0
    have H1 := Lib.hid hS1
    have H2 := Lib.hid hS2
    clear e3 ht hb hla hlb hlc hR hx0 hx1 hx2 hS0 hS1 hS2 z0 z1 z2
    go_enter Tryz.func26, Tryz.ntmps26
    go_upto_region 17 with (first
      | (go_at_call 53; refine (HL.out _).mono ?_; rintro e w1 ⟨rfl, hx1⟩; obtain ⟨_, k0, k1, k2, k3, _, _, _, _⟩ := (NX.mv (b := W.heap.size + 1) HNA.out (Mv.of_ext hx1) (by omega)).nb; have HX1 := Lib.hid (HX0.out.trans hx1); clear hx1)
      | (go_at_call 57; refine (HC.out _ HX1.out).mono ?_; rintro e w2 ⟨A2, c2, rfl, ho2, hx2⟩; have HX2 := Lib.hid (HX1.out.trans hx2); have HO2 := Lib.hid ho2; clear hx2 ho2))
    obtain ⟨A3, c3, e3, hc3, hsl⟩ := OL.form scf_len HO2.out
    injection e3 with e31 e32 e33
    subst e31 e33
    obtain ⟨g, off, rfl, hg, hcl⟩ := hsl.2 (by simp)
    have p0 := hcl 0 x0 rfl 0 _ rfl
    have p1 := hcl 1 x1 rfl 0 _ rfl
    have p2 := hcl 2 x2 rfl 0 _ rfl
    simp only [Nat.zero_mul, Nat.add_zero] at p0
    simp only [Nat.one_mul, Nat.add_zero] at p1
    simp only [Nat.mul_one, Nat.add_zero] at p2
    rw [show (⟨x0.toArray⟩ : ByteArray) = S0 from H0.out.symm] at p0
    rw [show (⟨x1.toArray⟩ : ByteArray) = S1 from H1.out.symm] at p1
    rw [show (⟨x2.toArray⟩ : ByteArray) = S2 from H2.out.symm] at p2
    clear hcl hsl hg hc3
    go_quiet (fail)
    go_wp2
    go_ret
    exact ⟨congrArg (fun z => Ending.returned (.string z)) HF.out, HX2.out.drewN _⟩
  | call1 s a h hs ha =>
    rw [sh_call]
    obtain ⟨e1, e2, e3, e4⟩ := hr.fields
    simp only [List.length_cons, List.length_nil, Nat.zero_add] at e4
    have HR := Lib.hid hr
    obtain ⟨dk, dn, ds, dA, dm, dc⟩ := d
    simp only at e1 e2 e3 e4 ⊢
    subst e1 e2 e4
    clear hr
    have HDS := Lib.hid e3
    obtain ⟨LV, hLV⟩ : ∃ L, L = lvN 10 s := ⟨_, rfl⟩
    have HL := Lib.hid (fun X => plev_any ⟨10, 0, ds, dA, 1, dc⟩ s e3 X)
    simp only at HL
    rw [← hLV] at HL
    have HLV := Lib.hid hLV
    clear hLV
    have hx0 : Ext W (W.alloc (.cells #[.int .i64 10, .int .i64 0, .string ds, .slice dA 1 dc] 31)) := (Ext.refl W).alloc _
    have hna : NX (W.alloc (.cells #[.int .i64 10, .int .i64 0, .string ds, .slice dA 1 dc] 31)) W.heap.size 10 0 ds (.slice dA 1 dc) := heap_alloc_new _ _
    have HX0 := Lib.hid hx0
    have HNA := Lib.hid hna
    clear hx0 hna
    simp only [tsz, tszs, shB, shBs] at ht hb
    have hsm := fun_short h
    have hla := showT_len ha
    simp only [List.map_cons, List.map_nil]
    have HC := Lib.hid (fun X (hX : Ext W X) => (show Calls Tryz.prog 57 #[.slice dA 1 dc] X (AlPost [showT a] X) from pall_any HS.out 10 0 s [a] ⟨10, 0, ds, dA, 1, dc⟩ P X (fun t ht => by
      simp only [List.mem_cons, List.not_mem_nil, or_false] at ht
      subst ht
      exact ⟨by omega, ha, by omega⟩) (by simp) (HR.out.ext hX) (HTB.out.ext hX)))
    obtain ⟨xs, hxs⟩ : ∃ xs, xs = [showT a] := ⟨_, rfl⟩
    have hxl : xs.length = 1 := by rw [hxs]; rfl
    have hjl : (Lib.join xs [44, 32]).length ≤ 20000100 := by
      rw [hxs]
      simp only [Lib.join_cons, Lib.joinTail, List.map_nil, List.flatten_nil, List.length_append, List.length_nil]
      omega
    rw [← hxs] at HC ⊢
    obtain ⟨J, hJ⟩ : ∃ J, J = bs (Lib.join xs [44, 32]) := ⟨_, rfl⟩
    have hJs : J.size = (Lib.join xs [44, 32]).length := by rw [hJ, bs_size]
    have hds : ds.size = s.length := by rw [e3, bs_size]
    have q0 : ¬ 9223372036854775807 < ds.size + 1 := by omega
    have q1 : ¬ 9223372036854775807 < ds.size + 1 + J.size := by omega
    have q2 : ¬ 9223372036854775807 < ds.size + 1 + J.size + 1 := by omega
    have HJ := Lib.hid (fun X base A c (ho : OL scf 1 X base 9 (.slice A 1 c) xs) => (show Calls Tryz.prog 58 #[.slice A 1 c, .string ⟨#[44, 32]⟩] X (fun e X' => e = .returned (.string J) ∧ Ext X X') from by
      have h9 := joinC_any (base := base) (A := A) (c := c) X (l := xs) (by rw [hxl]; exact ho) (by omega) (by omega)
      rw [hxl] at h9
      unfold StrPost at h9
      rw [hJ]; exact h9))
    have HF := Lib.hid (show ds ++ ⟨#[40]⟩ ++ J ++ ⟨#[41]⟩ = bs (s ++ [40] ++ Lib.join xs [44, 32] ++ [41]) from by rw [e3, hJ, show (⟨#[40]⟩ : ByteArray) = bs [40] from rfl, show (⟨#[41]⟩ : ByteArray) = bs [41] from rfl, bs_app, bs_app, bs_app])
    have HXL := Lib.hid hxl
    clear e3 ht hb hsm hla hxs hxl hjl hJ hJs hds
    go_enter Tryz.func26, Tryz.ntmps26
    go_upto_region 19 with (first
      | (go_at_call 53; refine (HL.out _).mono ?_; rintro e w1 ⟨rfl, hx1⟩; obtain ⟨_, k0, k1, k2, k3, _, _, _, _⟩ := (NX.mv (b := W.heap.size + 1) HNA.out (Mv.of_ext hx1) (by omega)).nb; have HX1 := Lib.hid (HX0.out.trans hx1); clear hx1))
    have HQ := Lib.hid (fun X (hX : Ext w1 X) => (show X.cell? ⟨W.heap.size, 2, none⟩ = some (.string ds) ∧ X.cell? ⟨W.heap.size, 3, none⟩ = some (.slice dA 1 dc) from ⟨cells_ext k2 hX, cells_ext k3 hX⟩))
    have hcur : Ext w1 w1.drew := (Ext.refl _).drew
    clear k0 k1
    go_region_held3 (fun X => X.cell? ⟨W.heap.size, 2, none⟩ = some (.string ds) ∧ X.cell? ⟨W.heap.size, 3, none⟩ = some (.slice dA 1 dc)) (first | exact HQ.out _ hcur | go_keep)
      (first
        | (go_at_call 57; refine (HC.out _ (HX1.out.trans hcur)).mono ?_; rintro e wn ⟨A2, c2, rfl, ho2, hx⟩; rw [HXL.out] at ho2 ⊢; have HO2 := Lib.hid ho2; have hcur := hcur.trans hx; clear hx ho2)
        | (go_at_call 58; refine (HJ.out _ _ _ _ HO2.out).mono ?_; rintro e wm ⟨rfl, hx⟩; have hcur := hcur.trans hx; clear hx))
    go_wp2
    go_ret
    exact ⟨congrArg (fun z => Ending.returned (.string z)) HF.out, HX1.out.trans hcur⟩
  | call2 s a b h hs ha hb1 =>
    rw [sh_call]
    obtain ⟨e1, e2, e3, e4⟩ := hr.fields
    simp only [List.length_cons, List.length_nil, Nat.zero_add, Nat.reduceAdd] at e4
    have HR := Lib.hid hr
    obtain ⟨dk, dn, ds, dA, dm, dc⟩ := d
    simp only at e1 e2 e3 e4 ⊢
    subst e1 e2 e4
    clear hr
    have HDS := Lib.hid e3
    obtain ⟨LV, hLV⟩ : ∃ L, L = lvN 10 s := ⟨_, rfl⟩
    have HL := Lib.hid (fun X => plev_any ⟨10, 0, ds, dA, 2, dc⟩ s e3 X)
    simp only at HL
    rw [← hLV] at HL
    have HLV := Lib.hid hLV
    clear hLV
    have hx0 : Ext W (W.alloc (.cells #[.int .i64 10, .int .i64 0, .string ds, .slice dA 2 dc] 31)) := (Ext.refl W).alloc _
    have hna : NX (W.alloc (.cells #[.int .i64 10, .int .i64 0, .string ds, .slice dA 2 dc] 31)) W.heap.size 10 0 ds (.slice dA 2 dc) := heap_alloc_new _ _
    have HX0 := Lib.hid hx0
    have HNA := Lib.hid hna
    clear hx0 hna
    simp only [tsz, tszs, shB, shBs] at ht hb
    have hsm := fun_short h
    have hla := showT_len ha
    have hlb := showT_len hb1
    simp only [List.map_cons, List.map_nil]
    have HC := Lib.hid (fun X (hX : Ext W X) => (show Calls Tryz.prog 57 #[.slice dA 2 dc] X (AlPost [showT a, showT b] X) from pall_any HS.out 10 0 s [a, b] ⟨10, 0, ds, dA, 2, dc⟩ P X (fun t ht => by
      simp only [List.mem_cons, List.not_mem_nil, or_false] at ht
      rcases ht with rfl | rfl
      · exact ⟨by omega, ha, by omega⟩
      · exact ⟨by omega, hb1, by omega⟩) (by simp) (HR.out.ext hX) (HTB.out.ext hX)))
    obtain ⟨xs, hxs⟩ : ∃ xs, xs = [showT a, showT b] := ⟨_, rfl⟩
    have hxl : xs.length = 2 := by rw [hxs]; rfl
    have hjl : (Lib.join xs [44, 32]).length ≤ 20000100 := by
      rw [hxs]
      simp only [Lib.join_cons, Lib.joinTail, List.map_cons, List.map_nil, List.flatten_nil, List.flatten_cons, List.length_append, List.length_cons, List.length_nil]
      omega
    rw [← hxs] at HC ⊢
    obtain ⟨J, hJ⟩ : ∃ J, J = bs (Lib.join xs [44, 32]) := ⟨_, rfl⟩
    have hJs : J.size = (Lib.join xs [44, 32]).length := by rw [hJ, bs_size]
    have hds : ds.size = s.length := by rw [e3, bs_size]
    have q0 : ¬ 9223372036854775807 < ds.size + 1 := by omega
    have q1 : ¬ 9223372036854775807 < ds.size + 1 + J.size := by omega
    have q2 : ¬ 9223372036854775807 < ds.size + 1 + J.size + 1 := by omega
    have HJ := Lib.hid (fun X base A c (ho : OL scf 1 X base 9 (.slice A 2 c) xs) => (show Calls Tryz.prog 58 #[.slice A 2 c, .string ⟨#[44, 32]⟩] X (fun e X' => e = .returned (.string J) ∧ Ext X X') from by
      have h9 := joinC_any (base := base) (A := A) (c := c) X (l := xs) (by rw [hxl]; exact ho) (by omega) (by omega)
      rw [hxl] at h9
      unfold StrPost at h9
      rw [hJ]; exact h9))
    have HF := Lib.hid (show ds ++ ⟨#[40]⟩ ++ J ++ ⟨#[41]⟩ = bs (s ++ [40] ++ Lib.join xs [44, 32] ++ [41]) from by rw [e3, hJ, show (⟨#[40]⟩ : ByteArray) = bs [40] from rfl, show (⟨#[41]⟩ : ByteArray) = bs [41] from rfl, bs_app, bs_app, bs_app])
    have HXL := Lib.hid hxl
    clear e3 ht hb hsm hla hlb hxs hxl hjl hJ hJs hds
    go_enter Tryz.func26, Tryz.ntmps26
    go_upto_region 19 with (first
      | (go_at_call 53; refine (HL.out _).mono ?_; rintro e w1 ⟨rfl, hx1⟩; obtain ⟨_, k0, k1, k2, k3, _, _, _, _⟩ := (NX.mv (b := W.heap.size + 1) HNA.out (Mv.of_ext hx1) (by omega)).nb; have HX1 := Lib.hid (HX0.out.trans hx1); clear hx1))
    have HQ := Lib.hid (fun X (hX : Ext w1 X) => (show X.cell? ⟨W.heap.size, 2, none⟩ = some (.string ds) ∧ X.cell? ⟨W.heap.size, 3, none⟩ = some (.slice dA 2 dc) from ⟨cells_ext k2 hX, cells_ext k3 hX⟩))
    have hcur : Ext w1 w1.drew := (Ext.refl _).drew
    clear k0 k1
    go_region_held3 (fun X => X.cell? ⟨W.heap.size, 2, none⟩ = some (.string ds) ∧ X.cell? ⟨W.heap.size, 3, none⟩ = some (.slice dA 2 dc)) (first | exact HQ.out _ hcur | go_keep)
      (first
        | (go_at_call 57; refine (HC.out _ (HX1.out.trans hcur)).mono ?_; rintro e wn ⟨A2, c2, rfl, ho2, hx⟩; rw [HXL.out] at ho2 ⊢; have HO2 := Lib.hid ho2; have hcur := hcur.trans hx; clear hx ho2)
        | (go_at_call 58; refine (HJ.out _ _ _ _ HO2.out).mono ?_; rintro e wm ⟨rfl, hx⟩; have hcur := hcur.trans hx; clear hx))
    go_wp2
    go_ret
    exact ⟨congrArg (fun z => Ending.returned (.string z)) HF.out, HX1.out.trans hcur⟩
  | bin s a b h ha hb1 =>
    rw [sh_bin]
    obtain ⟨e1, e2, e3, e4⟩ := hr.fields
    simp only [List.length_cons, List.length_nil, Nat.zero_add, Nat.reduceAdd] at e4
    have HR := Lib.hid hr
    obtain ⟨dk, dn, ds, dA, dm, dc⟩ := d
    simp only at e1 e2 e3 e4 ⊢
    subst e1 e2 e4
    clear hr
    have HDS := Lib.hid e3
    obtain ⟨LV, hLV⟩ : ∃ L, L = lvN 6 s := ⟨_, rfl⟩
    have HL := Lib.hid (fun X => plev_any ⟨6, 0, ds, dA, 2, dc⟩ s e3 X)
    simp only at HL
    rw [← hLV] at HL
    have HLV := Lib.hid hLV
    clear hLV
    have hx0 : Ext W (W.alloc (.cells #[.int .i64 6, .int .i64 0, .string ds, .slice dA 2 dc] 31)) := (Ext.refl W).alloc _
    have hna : NX (W.alloc (.cells #[.int .i64 6, .int .i64 0, .string ds, .slice dA 2 dc] 31)) W.heap.size 6 0 ds (.slice dA 2 dc) := heap_alloc_new _ _
    have HX0 := Lib.hid hx0
    have HNA := Lib.hid hna
    clear hx0 hna
    simp only [tsz, tszs, shB, shBs] at ht hb
    have hla := showT_len ha
    have hlb := showT_len hb1
    obtain ⟨g, off, d1, hA, hrp1, hca⟩ := kid_at HR.out 0 a rfl
    obtain ⟨g', off', d2, hA2, hrp2, hcb⟩ := kid_at HR.out 1 b rfl
    simp only at hA hA2
    subst hA
    simp only [Option.some.injEq, Addr.mk.injEq, and_true] at hA2
    obtain ⟨rfl, rfl⟩ := hA2
    simp only [Nat.zero_mul, Nat.add_zero] at hca
    simp only [Nat.one_mul] at hcb
    have HCA := Lib.hid hca
    have HCB := Lib.hid hcb
    clear hca hcb
    have hLV8 : LV ≤ 8 := by rw [HLV.out]; exact lvN_le _ _
    have hsm : s.length ≤ 10 := lv_short h
    have hlv : lvOf s = LV := by rw [HLV.out]; simp [lvN]
    rw [hlv]
    clear hlv
    by_cases h4 : LV = 4
    · subst h4
      have e5 : leftL 4 = 5 := rfl
      rw [e5]
      clear e5
      have hopa := fun X (hX : Ext W X) => (show Calls Tryz.prog 56 #[.agg #[.int .i64 d1.k, .int .i64 d1.n, .string d1.s, .slice d1.A d1.m d1.c], .int .i64 5] X (StrPost (opL (lvT a) 5 (showT a)) X) from pop_any HS.out a d1 P X (by omega) ha (by omega) (hrp1.ext hX) (HTB.out.ext hX) 5 (by omega))
      have hopb := fun X (hX : Ext W X) => (show Calls Tryz.prog 56 #[.agg #[.int .i64 d2.k, .int .i64 d2.n, .string d2.s, .slice d2.A d2.m d2.c], .int .i64 5] X (StrPost (opL (lvT b) 5 (showT b)) X) from pop_any HS.out b d2 P X (by omega) hb1 (by omega) (hrp2.ext hX) (HTB.out.ext hX) 5 (by omega))
      unfold StrPost at hopa hopb
      obtain ⟨xa, hxa⟩ : ∃ x, x = opL (lvT a) 5 (showT a) := ⟨_, rfl⟩
      obtain ⟨xb, hxb⟩ : ∃ x, x = opL (lvT b) 5 (showT b) := ⟨_, rfl⟩
      obtain ⟨SA, hSA⟩ : ∃ S, S = bs xa := ⟨_, rfl⟩
      obtain ⟨SB, hSB⟩ : ∃ S, S = bs xb := ⟨_, rfl⟩
      rw [← hxa, show (⟨xa.toArray⟩ : ByteArray) = SA from hSA.symm] at hopa
      rw [← hxb, show (⟨xb.toArray⟩ : ByteArray) = SB from hSB.symm] at hopb
      have hla2 := opL_len (lvT a) 5 (showT a)
      have hlb2 := opL_len (lvT b) 5 (showT b)
      rw [← hxa] at hla2 ⊢
      rw [← hxb] at hlb2 ⊢
      have zA : SA.size = xa.length := by rw [hSA, bs_size]
      have zB : SB.size = xb.length := by rw [hSB, bs_size]
      have zd : ds.size = s.length := by rw [e3, bs_size]
      have q0 : ¬ 9223372036854775807 < SA.size + 1 := by omega
      have q1 : ¬ 9223372036854775807 < SA.size + 1 + ds.size := by omega
      have q2 : ¬ 9223372036854775807 < SA.size + 1 + ds.size + 1 := by omega
      have q3 : ¬ 9223372036854775807 < SA.size + 1 + ds.size + 1 + SB.size := by omega
      have HF := Lib.hid (show SA ++ ⟨#[32]⟩ ++ ds ++ ⟨#[32]⟩ ++ SB = bs (xa ++ [32] ++ s ++ [32] ++ xb) from by rw [hSA, hSB, e3, show (⟨#[32]⟩ : ByteArray) = bs [32] from rfl, bs_app, bs_app, bs_app, bs_app])
      have HOA := Lib.hid hopa
      have HOB := Lib.hid hopb
      clear e3 ht hb hla hlb hla2 hlb2 hopa hopb hxa hxb hSA hSB zA zB zd hrp1 hrp2 hsm
      go_enter Tryz.func26, Tryz.ntmps26
      go_upto_region 23 with (first
        | (go_at_call 53; refine (HL.out _).mono ?_; rintro e w1 ⟨rfl, hx1⟩; obtain ⟨_, k0, k1, k2, k3, _, _, _, _⟩ := (NX.mv (b := W.heap.size + 1) HNA.out (Mv.of_ext hx1) (by omega)).nb; have HX1 := Lib.hid (HX0.out.trans hx1); clear hx1))
      have HQ := Lib.hid (fun X (hX : Ext w1 X) => (show X.cell? ⟨W.heap.size, 3, none⟩ = some (.slice (some ⟨g, off, none⟩) 2 dc) ∧ X.cell? ⟨g, off, none⟩ = some (.int .i64 d1.k) ∧ X.cell? ⟨g, off + 1, none⟩ = some (.int .i64 d1.n) ∧ X.cell? ⟨g, off + 2, none⟩ = some (.string d1.s) ∧ X.cell? ⟨g, off + 3, none⟩ = some (.slice d1.A d1.m d1.c) ∧ X.cell? ⟨g, off + 4, none⟩ = some (.int .i64 d2.k) ∧ X.cell? ⟨g, off + 4 + 1, none⟩ = some (.int .i64 d2.n) ∧ X.cell? ⟨g, off + 4 + 2, none⟩ = some (.string d2.s) ∧ X.cell? ⟨g, off + 4 + 3, none⟩ = some (.slice d2.A d2.m d2.c) from by
        obtain ⟨p0, p1, p2, p3⟩ := HCA.out X (HX1.out.trans hX)
        obtain ⟨r0, r1, r2, r3⟩ := HCB.out X (HX1.out.trans hX)
        exact ⟨cells_ext k3 hX, p0, p1, p2, p3, r0, r1, r2, r3⟩))
      obtain ⟨u0, u1, u2, u3, u4, u5, u6, u7, u8⟩ := HQ.out w1 (Ext.refl _)
      have K0 := Lib.hid k0
      have K2 := Lib.hid k2
      have hcur : Ext w1 w1.drew := (Ext.refl _).drew
      clear k0 k1 k2 k3
      go_region_held3 (fun X => X.cell? ⟨W.heap.size, 3, none⟩ = some (.slice (some ⟨g, off, none⟩) 2 dc) ∧ X.cell? ⟨g, off, none⟩ = some (.int .i64 d1.k) ∧ X.cell? ⟨g, off + 1, none⟩ = some (.int .i64 d1.n) ∧ X.cell? ⟨g, off + 2, none⟩ = some (.string d1.s) ∧ X.cell? ⟨g, off + 3, none⟩ = some (.slice d1.A d1.m d1.c) ∧ X.cell? ⟨g, off + 4, none⟩ = some (.int .i64 d2.k) ∧ X.cell? ⟨g, off + 4 + 1, none⟩ = some (.int .i64 d2.n) ∧ X.cell? ⟨g, off + 4 + 2, none⟩ = some (.string d2.s) ∧ X.cell? ⟨g, off + 4 + 3, none⟩ = some (.slice d2.A d2.m d2.c)) (first | exact HQ.out _ hcur | go_keep)
        (first
          | (go_at_call_of 56 (Value.agg #[Value.int IntKind.i64 d1.k, Value.int IntKind.i64 d1.n, Value.string d1.s, Value.slice d1.A d1.m d1.c]); refine (HOA.out _ (HX1.out.trans hcur)).mono ?_; rintro e wn ⟨rfl, hx⟩; have hcur := hcur.trans hx; clear hx)
          | (go_at_call_of 56 (Value.agg #[Value.int IntKind.i64 d2.k, Value.int IntKind.i64 d2.n, Value.string d2.s, Value.slice d2.A d2.m d2.c]); refine (HOB.out _ (HX1.out.trans hcur)).mono ?_; rintro e wm ⟨rfl, hx⟩; have hcur := hcur.trans hx; clear hx))
      all_goals
        have m0 := cells_ext K0.out hcur
        have m2 := cells_ext K2.out hcur
        go_wp2
        go_ret
        exact ⟨congrArg (fun z => Ending.returned (.string z)) HF.out, HX1.out.trans hcur⟩
    · have e5 : leftL LV = LV := if_neg h4
      have b4 : ((LV : Int) == 4) = false := by simpa using (show ¬ (LV : Int) = 4 by omega)
      have hw : IntKind.i64.wrap ((LV : Int) + 1) = (LV : Int) + 1 := IntWalk.i64_in _ (by omega)
      rw [e5]
      clear e5 h4
      have hopa := fun X (hX : Ext W X) => (show Calls Tryz.prog 56 #[.agg #[.int .i64 d1.k, .int .i64 d1.n, .string d1.s, .slice d1.A d1.m d1.c], .int .i64 (LV : Int)] X (StrPost (opL (lvT a) LV (showT a)) X) from pop_any HS.out a d1 P X (by omega) ha (by omega) (hrp1.ext hX) (HTB.out.ext hX) LV (by omega))
      have hopb := fun X (hX : Ext W X) => (show Calls Tryz.prog 56 #[.agg #[.int .i64 d2.k, .int .i64 d2.n, .string d2.s, .slice d2.A d2.m d2.c], .int .i64 ((LV : Int) + 1)] X (StrPost (opL (lvT b) (LV + 1) (showT b)) X) from pop_any HS.out b d2 P X (by omega) hb1 (by omega) (hrp2.ext hX) (HTB.out.ext hX) (LV + 1) (by omega))
      unfold StrPost at hopa hopb
      obtain ⟨xa, hxa⟩ : ∃ x, x = opL (lvT a) LV (showT a) := ⟨_, rfl⟩
      obtain ⟨xb, hxb⟩ : ∃ x, x = opL (lvT b) (LV + 1) (showT b) := ⟨_, rfl⟩
      obtain ⟨SA, hSA⟩ : ∃ S, S = bs xa := ⟨_, rfl⟩
      obtain ⟨SB, hSB⟩ : ∃ S, S = bs xb := ⟨_, rfl⟩
      rw [← hxa, show (⟨xa.toArray⟩ : ByteArray) = SA from hSA.symm] at hopa
      rw [← hxb, show (⟨xb.toArray⟩ : ByteArray) = SB from hSB.symm] at hopb
      have hla2 := opL_len (lvT a) LV (showT a)
      have hlb2 := opL_len (lvT b) (LV + 1) (showT b)
      rw [← hxa] at hla2 ⊢
      rw [← hxb] at hlb2 ⊢
      have zA : SA.size = xa.length := by rw [hSA, bs_size]
      have zB : SB.size = xb.length := by rw [hSB, bs_size]
      have zd : ds.size = s.length := by rw [e3, bs_size]
      have q0 : ¬ 9223372036854775807 < SA.size + 1 := by omega
      have q1 : ¬ 9223372036854775807 < SA.size + 1 + ds.size := by omega
      have q2 : ¬ 9223372036854775807 < SA.size + 1 + ds.size + 1 := by omega
      have q3 : ¬ 9223372036854775807 < SA.size + 1 + ds.size + 1 + SB.size := by omega
      have HF := Lib.hid (show SA ++ ⟨#[32]⟩ ++ ds ++ ⟨#[32]⟩ ++ SB = bs (xa ++ [32] ++ s ++ [32] ++ xb) from by rw [hSA, hSB, e3, show (⟨#[32]⟩ : ByteArray) = bs [32] from rfl, bs_app, bs_app, bs_app, bs_app])
      have HOA := Lib.hid hopa
      have HOB := Lib.hid hopb
      clear e3 ht hb hla hlb hla2 hlb2 hopa hopb hxa hxb hSA hSB zA zB zd hrp1 hrp2 hsm
      go_enter Tryz.func26, Tryz.ntmps26
      go_upto_region 23 with (first
        | (go_at_call 53; refine (HL.out _).mono ?_; rintro e w1 ⟨rfl, hx1⟩; obtain ⟨_, k0, k1, k2, k3, _, _, _, _⟩ := (NX.mv (b := W.heap.size + 1) HNA.out (Mv.of_ext hx1) (by omega)).nb; have HX1 := Lib.hid (HX0.out.trans hx1); clear hx1))
      have HQ := Lib.hid (fun X (hX : Ext w1 X) => (show X.cell? ⟨W.heap.size, 3, none⟩ = some (.slice (some ⟨g, off, none⟩) 2 dc) ∧ X.cell? ⟨g, off, none⟩ = some (.int .i64 d1.k) ∧ X.cell? ⟨g, off + 1, none⟩ = some (.int .i64 d1.n) ∧ X.cell? ⟨g, off + 2, none⟩ = some (.string d1.s) ∧ X.cell? ⟨g, off + 3, none⟩ = some (.slice d1.A d1.m d1.c) ∧ X.cell? ⟨g, off + 4, none⟩ = some (.int .i64 d2.k) ∧ X.cell? ⟨g, off + 4 + 1, none⟩ = some (.int .i64 d2.n) ∧ X.cell? ⟨g, off + 4 + 2, none⟩ = some (.string d2.s) ∧ X.cell? ⟨g, off + 4 + 3, none⟩ = some (.slice d2.A d2.m d2.c) from by
        obtain ⟨p0, p1, p2, p3⟩ := HCA.out X (HX1.out.trans hX)
        obtain ⟨r0, r1, r2, r3⟩ := HCB.out X (HX1.out.trans hX)
        exact ⟨cells_ext k3 hX, p0, p1, p2, p3, r0, r1, r2, r3⟩))
      obtain ⟨u0, u1, u2, u3, u4, u5, u6, u7, u8⟩ := HQ.out w1 (Ext.refl _)
      have K0 := Lib.hid k0
      have K2 := Lib.hid k2
      have hcur : Ext w1 w1.drew := (Ext.refl _).drew
      clear k0 k1 k2 k3
      go_region_held3 (fun X => X.cell? ⟨W.heap.size, 3, none⟩ = some (.slice (some ⟨g, off, none⟩) 2 dc) ∧ X.cell? ⟨g, off, none⟩ = some (.int .i64 d1.k) ∧ X.cell? ⟨g, off + 1, none⟩ = some (.int .i64 d1.n) ∧ X.cell? ⟨g, off + 2, none⟩ = some (.string d1.s) ∧ X.cell? ⟨g, off + 3, none⟩ = some (.slice d1.A d1.m d1.c) ∧ X.cell? ⟨g, off + 4, none⟩ = some (.int .i64 d2.k) ∧ X.cell? ⟨g, off + 4 + 1, none⟩ = some (.int .i64 d2.n) ∧ X.cell? ⟨g, off + 4 + 2, none⟩ = some (.string d2.s) ∧ X.cell? ⟨g, off + 4 + 3, none⟩ = some (.slice d2.A d2.m d2.c)) (first | exact HQ.out _ hcur | go_keep)
        (first
          | (go_at_call_of 56 (Value.agg #[Value.int IntKind.i64 d1.k, Value.int IntKind.i64 d1.n, Value.string d1.s, Value.slice d1.A d1.m d1.c]); refine (HOA.out _ (HX1.out.trans hcur)).mono ?_; rintro e wn ⟨rfl, hx⟩; have hcur := hcur.trans hx; clear hx)
          | (go_at_call_of 56 (Value.agg #[Value.int IntKind.i64 d2.k, Value.int IntKind.i64 d2.n, Value.string d2.s, Value.slice d2.A d2.m d2.c]); refine (HOB.out _ (HX1.out.trans hcur)).mono ?_; rintro e wm ⟨rfl, hx⟩; have hcur := hcur.trans hx; clear hx))
      all_goals
        have m0 := cells_ext K0.out hcur
        have m2 := cells_ext K2.out hcur
        go_wp2
        go_ret
        exact ⟨congrArg (fun z => Ending.returned (.string z)) HF.out, HX1.out.trans hcur⟩
  | aft k s a b hk h ha hb1 =>
    rcases hk with rfl | rfl
    · rw [sh_aft]
      obtain ⟨e1, e2, e3, e4⟩ := hr.fields
      simp only [List.length_cons, List.length_nil, Nat.zero_add, Nat.reduceAdd] at e4
      have HR := Lib.hid hr
      obtain ⟨dk, dn, ds, dA, dm, dc⟩ := d
      simp only at e1 e2 e3 e4 ⊢
      subst e1 e2 e4
      clear hr
      have HDS := Lib.hid e3
      obtain ⟨LV, hLV⟩ : ∃ L, L = lvN 7 s := ⟨_, rfl⟩
      have HL := Lib.hid (fun X => plev_any ⟨7, 0, ds, dA, 2, dc⟩ s e3 X)
      simp only at HL
      rw [← hLV] at HL
      have HLV := Lib.hid hLV
      clear hLV
      have hx0 : Ext W (W.alloc (.cells #[.int .i64 7, .int .i64 0, .string ds, .slice dA 2 dc] 31)) := (Ext.refl W).alloc _
      have hna : NX (W.alloc (.cells #[.int .i64 7, .int .i64 0, .string ds, .slice dA 2 dc] 31)) W.heap.size 7 0 ds (.slice dA 2 dc) := heap_alloc_new _ _
      have HX0 := Lib.hid hx0
      have HNA := Lib.hid hna
      clear hx0 hna
      simp only [tsz, tszs, shB, shBs] at ht hb
      have hla := showT_len ha
      have hlb := showT_len hb1
      obtain ⟨g, off, d1, hA, hrp1, hca⟩ := kid_at HR.out 0 a rfl
      obtain ⟨g', off', d2, hA2, hrp2, hcb⟩ := kid_at HR.out 1 b rfl
      simp only at hA hA2
      subst hA
      simp only [Option.some.injEq, Addr.mk.injEq, and_true] at hA2
      obtain ⟨rfl, rfl⟩ := hA2
      simp only [Nat.zero_mul, Nat.add_zero] at hca
      simp only [Nat.one_mul] at hcb
      have HCA := Lib.hid hca
      have HCB := Lib.hid hcb
      clear hca hcb
      have hLV8 : LV ≤ 8 := by rw [HLV.out]; exact lvN_le _ _
      have hsm : s.length ≤ 10 := unit_short h
      have hlv : LV = 5 := by rw [HLV.out]; simp [lvN]
      subst hlv
      have hopa := fun X (hX : Ext W X) => (show Calls Tryz.prog 56 #[.agg #[.int .i64 d1.k, .int .i64 d1.n, .string d1.s, .slice d1.A d1.m d1.c], .int .i64 5] X (StrPost (opL (lvT a) 5 (showT a)) X) from pop_any HS.out a d1 P X (by omega) ha (by omega) (hrp1.ext hX) (HTB.out.ext hX) 5 (by omega))
      have hopb := fun X (hX : Ext W X) => (show Calls Tryz.prog 56 #[.agg #[.int .i64 d2.k, .int .i64 d2.n, .string d2.s, .slice d2.A d2.m d2.c], .int .i64 6] X (StrPost (opL (lvT b) 6 (showT b)) X) from pop_any HS.out b d2 P X (by omega) hb1 (by omega) (hrp2.ext hX) (HTB.out.ext hX) 6 (by omega))
      unfold StrPost at hopa hopb
      obtain ⟨xa, hxa⟩ : ∃ x, x = opL (lvT a) 5 (showT a) := ⟨_, rfl⟩
      obtain ⟨xb, hxb⟩ : ∃ x, x = opL (lvT b) 6 (showT b) := ⟨_, rfl⟩
      obtain ⟨SA, hSA⟩ : ∃ S, S = bs xa := ⟨_, rfl⟩
      obtain ⟨SB, hSB⟩ : ∃ S, S = bs xb := ⟨_, rfl⟩
      rw [← hxa, show (⟨xa.toArray⟩ : ByteArray) = SA from hSA.symm] at hopa
      rw [← hxb, show (⟨xb.toArray⟩ : ByteArray) = SB from hSB.symm] at hopb
      have hla2 := opL_len (lvT a) 5 (showT a)
      have hlb2 := opL_len (lvT b) 6 (showT b)
      rw [← hxa] at hla2 ⊢
      rw [← hxb] at hlb2 ⊢
      have zA : SA.size = xa.length := by rw [hSA, bs_size]
      have zB : SB.size = xb.length := by rw [hSB, bs_size]
      have zd : ds.size = s.length := by rw [e3, bs_size]
      have q0 : ¬ 9223372036854775807 < SA.size + 3 := by omega
      have q1 : ¬ 9223372036854775807 < SA.size + 3 + SB.size := by omega
      have q2 : ¬ 9223372036854775807 < SA.size + 3 + SB.size + 1 := by omega
      have q3 : ¬ 9223372036854775807 < SA.size + 3 + SB.size + 1 + ds.size := by omega
      have HF := Lib.hid (show SA ++ ⟨#[32, 43, 32]⟩ ++ SB ++ ⟨#[32]⟩ ++ ds = bs (xa ++ [32, 43, 32] ++ xb ++ [32] ++ s) from by rw [hSA, hSB, e3, show (⟨#[32, 43, 32]⟩ : ByteArray) = bs [32, 43, 32] from rfl, show (⟨#[32]⟩ : ByteArray) = bs [32] from rfl, bs_app, bs_app, bs_app, bs_app])
      have HOA := Lib.hid hopa
      have HOB := Lib.hid hopb
      clear e3 ht hb hla hlb hla2 hlb2 hopa hopb hxa hxb hSA hSB zA zB zd hrp1 hrp2 hsm
      go_enter Tryz.func26, Tryz.ntmps26
      go_upto_region 23 with (first
        | (go_at_call 53; refine (HL.out _).mono ?_; rintro e w1 ⟨rfl, hx1⟩; obtain ⟨_, k0, k1, k2, k3, _, _, _, _⟩ := (NX.mv (b := W.heap.size + 1) HNA.out (Mv.of_ext hx1) (by omega)).nb; have HX1 := Lib.hid (HX0.out.trans hx1); clear hx1))
      have HQ := Lib.hid (fun X (hX : Ext w1 X) => (show X.cell? ⟨W.heap.size, 3, none⟩ = some (.slice (some ⟨g, off, none⟩) 2 dc) ∧ X.cell? ⟨g, off, none⟩ = some (.int .i64 d1.k) ∧ X.cell? ⟨g, off + 1, none⟩ = some (.int .i64 d1.n) ∧ X.cell? ⟨g, off + 2, none⟩ = some (.string d1.s) ∧ X.cell? ⟨g, off + 3, none⟩ = some (.slice d1.A d1.m d1.c) ∧ X.cell? ⟨g, off + 4, none⟩ = some (.int .i64 d2.k) ∧ X.cell? ⟨g, off + 4 + 1, none⟩ = some (.int .i64 d2.n) ∧ X.cell? ⟨g, off + 4 + 2, none⟩ = some (.string d2.s) ∧ X.cell? ⟨g, off + 4 + 3, none⟩ = some (.slice d2.A d2.m d2.c) from by
        obtain ⟨p0, p1, p2, p3⟩ := HCA.out X (HX1.out.trans hX)
        obtain ⟨r0, r1, r2, r3⟩ := HCB.out X (HX1.out.trans hX)
        exact ⟨cells_ext k3 hX, p0, p1, p2, p3, r0, r1, r2, r3⟩))
      obtain ⟨u0, u1, u2, u3, u4, u5, u6, u7, u8⟩ := HQ.out w1 (Ext.refl _)
      have K0 := Lib.hid k0
      have K2 := Lib.hid k2
      have hcur : Ext w1 w1.drew := (Ext.refl _).drew
      clear k0 k1 k2 k3
      go_region_held3 (fun X => X.cell? ⟨W.heap.size, 3, none⟩ = some (.slice (some ⟨g, off, none⟩) 2 dc) ∧ X.cell? ⟨g, off, none⟩ = some (.int .i64 d1.k) ∧ X.cell? ⟨g, off + 1, none⟩ = some (.int .i64 d1.n) ∧ X.cell? ⟨g, off + 2, none⟩ = some (.string d1.s) ∧ X.cell? ⟨g, off + 3, none⟩ = some (.slice d1.A d1.m d1.c) ∧ X.cell? ⟨g, off + 4, none⟩ = some (.int .i64 d2.k) ∧ X.cell? ⟨g, off + 4 + 1, none⟩ = some (.int .i64 d2.n) ∧ X.cell? ⟨g, off + 4 + 2, none⟩ = some (.string d2.s) ∧ X.cell? ⟨g, off + 4 + 3, none⟩ = some (.slice d2.A d2.m d2.c)) (first | exact HQ.out _ hcur | go_keep)
        (first
          | (go_at_call_of 56 (Value.agg #[Value.int IntKind.i64 d1.k, Value.int IntKind.i64 d1.n, Value.string d1.s, Value.slice d1.A d1.m d1.c]); refine (HOA.out _ (HX1.out.trans hcur)).mono ?_; rintro e wn ⟨rfl, hx⟩; have hcur := hcur.trans hx; clear hx)
          | (go_at_call_of 56 (Value.agg #[Value.int IntKind.i64 d2.k, Value.int IntKind.i64 d2.n, Value.string d2.s, Value.slice d2.A d2.m d2.c]); refine (HOB.out _ (HX1.out.trans hcur)).mono ?_; rintro e wm ⟨rfl, hx⟩; have hcur := hcur.trans hx; clear hx))
      all_goals
        have m0 := cells_ext K0.out hcur
        have m2 := cells_ext K2.out hcur
        go_wp2
        go_ret
        exact ⟨congrArg (fun z => Ending.returned (.string z)) HF.out, HX1.out.trans hcur⟩
    · rw [sh_bef]
      obtain ⟨e1, e2, e3, e4⟩ := hr.fields
      simp only [List.length_cons, List.length_nil, Nat.zero_add, Nat.reduceAdd] at e4
      have HR := Lib.hid hr
      obtain ⟨dk, dn, ds, dA, dm, dc⟩ := d
      simp only at e1 e2 e3 e4 ⊢
      subst e1 e2 e4
      clear hr
      have HDS := Lib.hid e3
      obtain ⟨LV, hLV⟩ : ∃ L, L = lvN 8 s := ⟨_, rfl⟩
      have HL := Lib.hid (fun X => plev_any ⟨8, 0, ds, dA, 2, dc⟩ s e3 X)
      simp only at HL
      rw [← hLV] at HL
      have HLV := Lib.hid hLV
      clear hLV
      have hx0 : Ext W (W.alloc (.cells #[.int .i64 8, .int .i64 0, .string ds, .slice dA 2 dc] 31)) := (Ext.refl W).alloc _
      have hna : NX (W.alloc (.cells #[.int .i64 8, .int .i64 0, .string ds, .slice dA 2 dc] 31)) W.heap.size 8 0 ds (.slice dA 2 dc) := heap_alloc_new _ _
      have HX0 := Lib.hid hx0
      have HNA := Lib.hid hna
      clear hx0 hna
      simp only [tsz, tszs, shB, shBs] at ht hb
      have hla := showT_len ha
      have hlb := showT_len hb1
      obtain ⟨g, off, d1, hA, hrp1, hca⟩ := kid_at HR.out 0 a rfl
      obtain ⟨g', off', d2, hA2, hrp2, hcb⟩ := kid_at HR.out 1 b rfl
      simp only at hA hA2
      subst hA
      simp only [Option.some.injEq, Addr.mk.injEq, and_true] at hA2
      obtain ⟨rfl, rfl⟩ := hA2
      simp only [Nat.zero_mul, Nat.add_zero] at hca
      simp only [Nat.one_mul] at hcb
      have HCA := Lib.hid hca
      have HCB := Lib.hid hcb
      clear hca hcb
      have hLV8 : LV ≤ 8 := by rw [HLV.out]; exact lvN_le _ _
      have hsm : s.length ≤ 10 := unit_short h
      have hlv : LV = 5 := by rw [HLV.out]; simp [lvN]
      subst hlv
      have hopa := fun X (hX : Ext W X) => (show Calls Tryz.prog 56 #[.agg #[.int .i64 d1.k, .int .i64 d1.n, .string d1.s, .slice d1.A d1.m d1.c], .int .i64 5] X (StrPost (opL (lvT a) 5 (showT a)) X) from pop_any HS.out a d1 P X (by omega) ha (by omega) (hrp1.ext hX) (HTB.out.ext hX) 5 (by omega))
      have hopb := fun X (hX : Ext W X) => (show Calls Tryz.prog 56 #[.agg #[.int .i64 d2.k, .int .i64 d2.n, .string d2.s, .slice d2.A d2.m d2.c], .int .i64 6] X (StrPost (opL (lvT b) 6 (showT b)) X) from pop_any HS.out b d2 P X (by omega) hb1 (by omega) (hrp2.ext hX) (HTB.out.ext hX) 6 (by omega))
      unfold StrPost at hopa hopb
      obtain ⟨xa, hxa⟩ : ∃ x, x = opL (lvT a) 5 (showT a) := ⟨_, rfl⟩
      obtain ⟨xb, hxb⟩ : ∃ x, x = opL (lvT b) 6 (showT b) := ⟨_, rfl⟩
      obtain ⟨SA, hSA⟩ : ∃ S, S = bs xa := ⟨_, rfl⟩
      obtain ⟨SB, hSB⟩ : ∃ S, S = bs xb := ⟨_, rfl⟩
      rw [← hxa, show (⟨xa.toArray⟩ : ByteArray) = SA from hSA.symm] at hopa
      rw [← hxb, show (⟨xb.toArray⟩ : ByteArray) = SB from hSB.symm] at hopb
      have hla2 := opL_len (lvT a) 5 (showT a)
      have hlb2 := opL_len (lvT b) 6 (showT b)
      rw [← hxa] at hla2 ⊢
      rw [← hxb] at hlb2 ⊢
      have zA : SA.size = xa.length := by rw [hSA, bs_size]
      have zB : SB.size = xb.length := by rw [hSB, bs_size]
      have zd : ds.size = s.length := by rw [e3, bs_size]
      have q0 : ¬ 9223372036854775807 < SA.size + 3 := by omega
      have q1 : ¬ 9223372036854775807 < SA.size + 3 + SB.size := by omega
      have q2 : ¬ 9223372036854775807 < SA.size + 3 + SB.size + 1 := by omega
      have q3 : ¬ 9223372036854775807 < SA.size + 3 + SB.size + 1 + ds.size := by omega
      have HF := Lib.hid (show SA ++ ⟨#[32, 45, 32]⟩ ++ SB ++ ⟨#[32]⟩ ++ ds = bs (xa ++ [32, 45, 32] ++ xb ++ [32] ++ s) from by rw [hSA, hSB, e3, show (⟨#[32, 45, 32]⟩ : ByteArray) = bs [32, 45, 32] from rfl, show (⟨#[32]⟩ : ByteArray) = bs [32] from rfl, bs_app, bs_app, bs_app, bs_app])
      have HOA := Lib.hid hopa
      have HOB := Lib.hid hopb
      clear e3 ht hb hla hlb hla2 hlb2 hopa hopb hxa hxb hSA hSB zA zB zd hrp1 hrp2 hsm
      go_enter Tryz.func26, Tryz.ntmps26
      go_upto_region 23 with (first
        | (go_at_call 53; refine (HL.out _).mono ?_; rintro e w1 ⟨rfl, hx1⟩; obtain ⟨_, k0, k1, k2, k3, _, _, _, _⟩ := (NX.mv (b := W.heap.size + 1) HNA.out (Mv.of_ext hx1) (by omega)).nb; have HX1 := Lib.hid (HX0.out.trans hx1); clear hx1))
      have HQ := Lib.hid (fun X (hX : Ext w1 X) => (show X.cell? ⟨W.heap.size, 3, none⟩ = some (.slice (some ⟨g, off, none⟩) 2 dc) ∧ X.cell? ⟨g, off, none⟩ = some (.int .i64 d1.k) ∧ X.cell? ⟨g, off + 1, none⟩ = some (.int .i64 d1.n) ∧ X.cell? ⟨g, off + 2, none⟩ = some (.string d1.s) ∧ X.cell? ⟨g, off + 3, none⟩ = some (.slice d1.A d1.m d1.c) ∧ X.cell? ⟨g, off + 4, none⟩ = some (.int .i64 d2.k) ∧ X.cell? ⟨g, off + 4 + 1, none⟩ = some (.int .i64 d2.n) ∧ X.cell? ⟨g, off + 4 + 2, none⟩ = some (.string d2.s) ∧ X.cell? ⟨g, off + 4 + 3, none⟩ = some (.slice d2.A d2.m d2.c) from by
        obtain ⟨p0, p1, p2, p3⟩ := HCA.out X (HX1.out.trans hX)
        obtain ⟨r0, r1, r2, r3⟩ := HCB.out X (HX1.out.trans hX)
        exact ⟨cells_ext k3 hX, p0, p1, p2, p3, r0, r1, r2, r3⟩))
      obtain ⟨u0, u1, u2, u3, u4, u5, u6, u7, u8⟩ := HQ.out w1 (Ext.refl _)
      have K0 := Lib.hid k0
      have K2 := Lib.hid k2
      have hcur : Ext w1 w1.drew := (Ext.refl _).drew
      clear k0 k1 k2 k3
      go_region_held3 (fun X => X.cell? ⟨W.heap.size, 3, none⟩ = some (.slice (some ⟨g, off, none⟩) 2 dc) ∧ X.cell? ⟨g, off, none⟩ = some (.int .i64 d1.k) ∧ X.cell? ⟨g, off + 1, none⟩ = some (.int .i64 d1.n) ∧ X.cell? ⟨g, off + 2, none⟩ = some (.string d1.s) ∧ X.cell? ⟨g, off + 3, none⟩ = some (.slice d1.A d1.m d1.c) ∧ X.cell? ⟨g, off + 4, none⟩ = some (.int .i64 d2.k) ∧ X.cell? ⟨g, off + 4 + 1, none⟩ = some (.int .i64 d2.n) ∧ X.cell? ⟨g, off + 4 + 2, none⟩ = some (.string d2.s) ∧ X.cell? ⟨g, off + 4 + 3, none⟩ = some (.slice d2.A d2.m d2.c)) (first | exact HQ.out _ hcur | go_keep)
        (first
          | (go_at_call_of 56 (Value.agg #[Value.int IntKind.i64 d1.k, Value.int IntKind.i64 d1.n, Value.string d1.s, Value.slice d1.A d1.m d1.c]); refine (HOA.out _ (HX1.out.trans hcur)).mono ?_; rintro e wn ⟨rfl, hx⟩; have hcur := hcur.trans hx; clear hx)
          | (go_at_call_of 56 (Value.agg #[Value.int IntKind.i64 d2.k, Value.int IntKind.i64 d2.n, Value.string d2.s, Value.slice d2.A d2.m d2.c]); refine (HOB.out _ (HX1.out.trans hcur)).mono ?_; rintro e wm ⟨rfl, hx⟩; have hcur := hcur.trans hx; clear hx))
      all_goals
        have m0 := cells_ext K0.out hcur
        have m2 := cells_ext K2.out hcur
        go_wp2
        go_ret
        exact ⟨congrArg (fun z => Ending.returned (.string z)) HF.out, HX1.out.trans hcur⟩
theorem pshow_any : ∀ M, SC M
  | 0 => fun t d P W h => by omega
  | M + 1 => pshow_step (pshow_any M)
end Go.Proofs.YtnpenepdechkjaaGreatDoor

/- (*strings.Builder).copyCheck and WriteString over this program, whose copyCheck has no panic. -/
namespace Go.Proofs.YtnpenepdechkjaaGreatDoor
open Go Go.RowKit

/-- Rows of other elements than bytes, but for the block b, are as they were. -/
def KeptB (b : Nat) (w w' : World) : Prop := ∀ k cs (T : TypeId) fr, w.heap[k]? = some (.cells cs T fr) → T ≠ 5 → k ≠ b → w'.heap[k]? = w.heap[k]?
theorem KeptB.refl (b : Nat) (w : World) : KeptB b w w := fun _ _ _ _ _ _ _ => rfl
theorem KeptB.trans {b : Nat} {w w' w'' : World} (h : KeptB b w w') (k : KeptB b w' w'') : KeptB b w w'' := fun j cs T fr h1 h2 h3 => (k j cs T fr ((h j cs T fr h1 h2 h3).trans h1) h2 h3).trans (h j cs T fr h1 h2 h3)
theorem KeptB.of_ext {b : Nat} {w w' : World} (h : Ext w w') : KeptB b w w' := fun _ _ _ _ h1 _ _ => h.block _ (lt_of_block h1)
theorem bldSize : (Tryz.prog.info? 77).map (·.size) = some 2 := by kernel_rfl
theorem bldLies : liesAt Tryz.prog Tryz.prog.depth 77 (2 / Tryz.prog.cellsOf 77) 0 77 1 = true := by kernel_rfl
theorem infoByte : (Tryz.prog.info? 5).map (fun i => (i.zero, i.size, i.bytes)) = some (some (.int .u8 0), 1, 1) := by kernel_rfl
set_option maxHeartbeats 1000000 in
set_option maxRecDepth 100000 in
theorem ccUsed_any (b : Nat) (w : World) (h0 : w.cell? ⟨b, 0, none⟩ = some (.pointer (some ⟨b, 0, none⟩))) :
    Calls Tryz.prog 100 #[.pointer (some ⟨b, 0, none⟩)] w fun e w' => e = .returned (.tuple #[]) ∧ w' = w := by
  obtain ⟨j, hj, _⟩ := Option.map_eq_some_iff.1 bldSize
  have hq : ∀ w : World, (binOp .neq 74 (.pointer (some ⟨b, 0, none⟩)) (.pointer (some ⟨b, 0, none⟩))).run Tryz.prog w = .ok (.bool false) w := fun w => Lib.run_neq_ptr_same w _ Tryz.underlying74 hj
  go_enter Tryz.func100, Tryz.ntmps100
  go_wp2
  go_end0
  exact ⟨rfl, rfl⟩
theorem noEsc (x : Value) (w : World) : (callFunc 138 #[x]).run Tryz.prog w = .ok (.value x) w := by
  rw [run_callFunc_extern Tryz.func138 (by kernel_rfl) (by kernel_rfl) (by kernel_rfl) (e := Extern.AbiNoEscape.same) (by kernel_rfl), Lib.run_noEscape]
  rfl
set_option maxHeartbeats 1000000 in
set_option maxRecDepth 100000 in
theorem ccFresh_any (b : Nat) (w : World) (h0 : w.cell? ⟨b, 0, none⟩ = some (.pointer none)) (hsh : w.shape? b = some (77, 2)) (hfz : w.frozen? ⟨b, 0, none⟩ = false) :
    Calls Tryz.prog 100 #[.pointer (some ⟨b, 0, none⟩)] w fun e w' => e = .returned (.tuple #[]) ∧ w' = w.setCell ⟨b, 0, none⟩ (.pointer (some ⟨b, 0, none⟩)) := by
  obtain ⟨j, hj, hjs⟩ := Option.map_eq_some_iff.1 bldSize
  have h1 := Lib.run_to_unsafe w ⟨b, 0, none⟩ Tryz.underlying74 Tryz.underlying125 hj (by rw [hjs]; decide) hsh (Nat.zero_lt_succ 1)
  have h2 := noEsc (.pointer (some ⟨b, 0, none⟩)) w
  have h3 := Lib.run_from_unsafe w ⟨b, 0, none⟩ Tryz.underlying125 Tryz.underlying74 hj hsh bldLies
  clear hj hjs
  go_enter Tryz.func100, Tryz.ntmps100
  go_wp2
  go_end0
  exact ⟨rfl, rfl⟩
theorem copyCheck_any (B b : Nat) (bs : List Value) (w : World) (h : Lib.IsBuilder 77 5 B b bs w) :
    Calls Tryz.prog 100 #[.pointer (some ⟨b, 0, none⟩)] w fun e w' => e = .returned (.tuple #[]) ∧ (Lib.BuilderAt 77 5 B b (.pointer (some ⟨b, 0, none⟩)) bs w' ∧ Below B w w' ∧ KeptB b w w') := by
  rcases h with h | h
  · refine (ccFresh_any b w h.cell0 h.shape h.frozen0).mono ?_
    rintro e w' ⟨rfl, rfl⟩
    exact ⟨rfl, h.used _, (Below.refl B w).setCell (p := ⟨b, 0, none⟩) h.1 _, fun k _ _ _ _ _ hk => heap_setCell_other w _ k _ (by simpa using hk)⟩
  · refine (ccUsed_any b w h.cell0).mono ?_
    rintro e w' ⟨rfl, rfl⟩
    exact ⟨rfl, h, Below.refl B _, KeptB.refl _ _⟩
set_option maxHeartbeats 2000000 in
set_option maxRecDepth 100000 in
theorem wstr_any (B b : Nat) (bs : List Value) (s : ByteArray) (w : World) (h : Lib.IsBuilder 77 5 B b bs w) (hlen : bs.length + s.size ≤ 140737488355328) (hBw : B ≤ w.heap.size) :
    Calls Tryz.prog 49 #[.pointer (some ⟨b, 0, none⟩), .string s] w fun e w' => e = .returned (.tuple #[.int .i64 s.size, .nilIface]) ∧ (Lib.BuilderAt 77 5 B b (.pointer (some ⟨b, 0, none⟩)) (bs ++ Lib.strCells s) w' ∧ Below B w w' ∧ KeptB b w w') := by
  obtain ⟨i0, hi, hz0, hz1, hz2⟩ := info_parts infoByte
  have HC := Lib.hid (copyCheck_any B b bs w h)
  have hbs := hBw
  clear h
  go_enter Tryz.func49, Tryz.ntmps49
  go_upto_region 2 with (first | (go_at_call 100; refine (HC.out).mono ?_; rintro e w1 ⟨rfl, h1, hb1, hk1⟩))
  have HK1 := Lib.hid hk1
  clear hk1
  obtain ⟨hB, v, hbk, hown, hne⟩ := h1
  have c0 : w1.cell? ⟨b, 0, none⟩ = some (.pointer (some ⟨b, 0, none⟩)) := by rw [Lib.cell_of_heap hbk]; rfl
  have c1 : w1.cell? ⟨b, 1, none⟩ = some v := by rw [Lib.cell_of_heap hbk]; rfl
  go_wp2_with (at_builtin; refine Lib.wpList_append_own_string _ rfl _ _ 75 9 rfl B 5 i0 Tryz.underlying75 Tryz.underlying9 hi hz0 hz1 hz2 _ _ _ rfl hown s rfl ?c3 ?c4 ?c5 ?_)
  case c3 => unfold maxLen; omega
  case c4 => omega
  case c5 => have := hb1.size; omega
  intro v' w2 hown' hgrow _
  have hlt : b < w1.heap.size := lt_of_block hbk
  have hb2 : w2.heap[b]? = some (.cells #[.pointer (some ⟨b, 0, none⟩), v] 77 (0, 0)) := by
    rw [hgrow.block b hlt (fun e => hne e.symm)]
    exact hbk
  have HK2 := Lib.hid (show KeptB b w1 w2 from fun k cs T fr h1 h2 h3 => hgrow.block k (lt_of_block h1) (fun e => by
    rcases hown.2 with ⟨hv, _⟩ | ⟨g, cap, cur, hv, _, hg, _⟩
    · rw [hv] at e; cases e
    · rw [hv] at e
      simp only [Value.ownBlock, Option.some.injEq] at e
      subst e
      rw [h1] at hg
      injection hg with hg
      injection hg with _ hT _
      exact h2 hT))
  have d0 : w2.cell? ⟨b, 0, none⟩ = some (.pointer (some ⟨b, 0, none⟩)) := by rw [Lib.cell_of_heap hb2]; rfl
  have d1 : w2.cell? ⟨b, 1, none⟩ = some v := by rw [Lib.cell_of_heap hb2]; rfl
  have f1 : w2.frozen? ⟨b, 1, none⟩ = false := Lib.frozen_of_heap hb2 1
  obtain ⟨ao, n', cap, rfl⟩ : ∃ ao n' cap, v' = .slice ao n' cap := by
    rcases hown'.2 with ⟨hv, _⟩ | ⟨g, cap, cur, hv, _⟩
    · exact ⟨_, _, _, hv⟩
    · exact ⟨_, _, _, hv⟩
  go_wp2
  go_ret2
  refine ⟨rfl, ?_, ?_, ?_⟩
  · exact Lib.BuilderAt.put (T := 77) (e := 5) hB hb2 (bs' := bs ++ Lib.strCells s) (by simpa [Lib.strCells_length] using hown') (by decide)
  · exact (hb1.grown hgrow (by have := hb1.size; omega) (fun k hk => (hown.lt k hk).1)).setCell (p := ⟨b, 1, none⟩) hB _
  · exact (HK1.out.trans HK2.out).trans (fun k _ _ _ _ _ hk => heap_setCell_other w2 _ k _ (by simpa using hk))
end Go.Proofs.YtnpenepdechkjaaGreatDoor

/- The production's Print. -/
namespace Go.Proofs.YtnpenepdechkjaaGreatDoor
open Go Go.RowKit

def lineL (w s : List UInt8) : List UInt8 := if s = [] then [] else [32, 32] ++ w ++ [32] ++ s ++ [59, 10]
def trN : Tr → Int
  | .nd _ n _ _ => n
def ifL (t : Tr) : List UInt8 := if trK t = 2 ∧ trN t = 1 then [] else lineL [105, 102] (showT t)
def ruleL (r : Rl) : List UInt8 :=
  ([114, 117, 108, 101, 32] ++ r.name ++ [32, 102, 114, 111, 109, 32, 64] ++ prL r.from_.toNat ++ [32, 123, 10]) ++ lineL [111, 110] r.on_ ++ ifL r.if_ ++ lineL [100, 117, 101] (showT r.due) ++ lineL [117, 110, 108, 101, 115, 115] r.unless_ ++ lineL [101, 108, 115, 101] r.else_ ++ [125, 10]
def printL (l : List Rl) : List UInt8 := l.flatMap ruleL
/-- Rules that can be printed. -/
structure GR (r : Rl) : Prop where
  fr : 0 ≤ r.from_ ∧ r.from_ ≤ 3652058
  ti : GT r.if_
  td : GT r.due
  bi : shB r.if_ ≤ 10000000
  bd : shB r.due ≤ 10000000
  nm : r.name.length ≤ 100000
  on_ : r.on_.length ≤ 100000
  un : r.unless_.length ≤ 100000
  el : r.else_.length ≤ 100000
theorem lineL_len (w s : List UInt8) : (lineL w s).length ≤ w.length + s.length + 5 := by
  unfold lineL
  split
  · exact Nat.zero_le _
  · simp only [List.length_append, List.length_cons, List.length_nil]; omega
theorem ruleL_len {r : Rl} (h : GR r) : (ruleL r).length ≤ 30000000 := by
  have h1 := lineL_len [111, 110] r.on_
  have h2 := lineL_len [100, 117, 101] (showT r.due)
  have h3 := lineL_len [117, 110, 108, 101, 115, 115] r.unless_
  have h4 := lineL_len [101, 108, 115, 101] r.else_
  have h5 : (ifL r.if_).length ≤ 2 + (showT r.if_).length + 5 := by
    unfold ifL
    split
    · exact Nat.zero_le _
    · exact lineL_len _ _
  have h6 := showT_len h.ti
  have h7 := showT_len h.td
  have h8 := prL_size (d := r.from_.toNat) (by have := h.fr; omega)
  have := h.bi
  have := h.bd
  have := h.nm
  have := h.on_
  have := h.un
  have := h.el
  unfold ruleL
  simp only [List.length_append, List.length_cons, List.length_nil] at h1 h2 h3 h4 ⊢
  omega
theorem printL_len : ∀ {l : List Rl}, (∀ r ∈ l, GR r) → (printL l).length ≤ l.length * 30000000
  | [], _ => Nat.zero_le _
  | r :: l, h => by
    have h1 := ruleL_len (h r (List.mem_cons_self ..))
    have h2 := printL_len (fun x hx => h x (List.mem_cons_of_mem _ hx))
    show (ruleL r ++ printL l).length ≤ _
    rw [List.length_append, List.length_cons]; omega
theorem printL_step (l : List Rl) (k : Nat) (r : Rl) (h : l[k]? = some r) : printL (l.take (k + 1)) = printL (l.take k) ++ ruleL r := by
  rw [List.take_add_one, h, printL, List.flatMap_append]
  simp [printL]
theorem IsB.ext {T e : TypeId} {B b : Nat} {bs : List Value} {w w' : World} (h : Lib.IsBuilder T e B b bs w) (hx : Ext w w') : Lib.IsBuilder T e B b bs w' := by
  have key : ∀ p, Lib.BuilderAt T e B b p bs w → Lib.BuilderAt T e B b p bs w' := fun p h => by
    obtain ⟨hB, v, hb, hown, hne⟩ := h
    refine ⟨hB, v, (hx.block b (lt_of_block hb)).trans hb, ⟨hown.1, ?_⟩, hne⟩
    rcases hown.2 with h2 | ⟨g, cap, cur, h1, h2, h3, h4⟩
    · exact .inl h2
    · exact .inr ⟨g, cap, cur, h1, h2, by rw [hx.block g (lt_of_block h3)]; exact h3, h4⟩
  rcases h with h | h
  · exact .inl (key _ h)
  · exact .inr (key _ h)
theorem IsB.lt {T e : TypeId} {B b : Nat} {bs : List Value} {w : World} (h : Lib.IsBuilder T e B b bs w) : b < w.heap.size := by
  rcases h with h | h <;> exact h.lt
/-- What a step of Print leaves. -/
structure PS (B b : Nat) (l : List UInt8) (w w' : World) : Prop where
  bld : Lib.IsBuilder 77 5 B b (Lib.byteCells l) w'
  bel : Below B w w'
  kep : KeptB b w w'
theorem PS.trans {B b : Nat} {l l' : List UInt8} {w w' w'' : World} (h : PS B b l w w') (k : PS B b l' w' w'') : PS B b l' w w'' := ⟨k.bld, Below.trans h.bel k.bel, h.kep.trans k.kep⟩
theorem PS.ext {B b : Nat} {l : List UInt8} {w w' w'' : World} (h : PS B b l w w') (hx : Ext w' w'') (hB : B ≤ w'.heap.size) : PS B b l w w'' := ⟨IsB.ext h.bld hx, Below.trans h.bel (Below.mono hx hB), h.kep.trans (KeptB.of_ext hx)⟩
theorem wstr_ps (B b : Nat) (l : List UInt8) (S : ByteArray) (s : List UInt8) (hS : S = bs s) (w : World) (h : Lib.IsBuilder 77 5 B b (Lib.byteCells l) w) (hlen : l.length + s.length ≤ 140737488355328) (hBw : B ≤ w.heap.size) :
    Calls Tryz.prog 49 #[.pointer (some ⟨b, 0, none⟩), .string S] w fun e w' => e = .returned (.tuple #[.int .i64 S.size, .nilIface]) ∧ PS B b (l ++ s) w w' := by
  refine (wstr_any B b _ S w h (by rw [Lib.byteCells_length, hS, bs_size]; exact hlen) hBw).mono ?_
  rintro e w' ⟨rfl, h1, h2, h3⟩
  refine ⟨rfl, .inr ?_, h2, h3⟩
  rw [Lib.byteCells_append]
  rw [Lib.strCells_eq, hS] at h1
  have e9 : (bs s).data.toList = s := by simp
  rw [e9] at h1
  exact h1
set_option maxHeartbeats 1000000 in
set_option maxRecDepth 100000 in
theorem pline_any (B b : Nat) (l : List UInt8) (W S : ByteArray) (wd s : List UInt8) (hW : W = bs wd) (hS : S = bs s) (hw1 : wd.length ≤ 100) (hs1 : s.length ≤ 10000000) (w : World) (h : Lib.IsBuilder 77 5 B b (Lib.byteCells l) w) (hlen : l.length ≤ 140000000000000) (hBw : B ≤ w.heap.size) :
    Calls Tryz.prog 48 #[.string W, .string S, .pointer (some ⟨b, 0, none⟩)] w fun e w' => e = .returned (.tuple #[]) ∧ PS B b (l ++ lineL wd s) w w' := by
  by_cases h0 : s = []
  · have hb : (S.toList == ([] : List UInt8)) = true := by rw [hS, bs_list, h0]; rfl
    have hSe : S = ⟨#[]⟩ := by rw [hS, h0]
    have HF := Lib.hid (show PS B b (l ++ lineL wd s) w w from ⟨by unfold lineL; rw [if_pos h0, List.append_nil]; exact h, Below.refl _ _, KeptB.refl _ _⟩)
    subst hSe
    clear hW hS h0 h
    go_enter Tryz.func48, Tryz.ntmps48
    go_wp2
    go_end0
    exact ⟨rfl, HF.out⟩
  · have hb : (S.toList == ([] : List UInt8)) = false := by rw [hS, bs_list]; exact beq_eq_false_iff_ne.2 h0
    have zw : W.size = wd.length := by rw [hW, bs_size]
    have zs : S.size = s.length := by rw [hS, bs_size]
    have q0 : ¬ 9223372036854775807 < 2 + W.size := by omega
    have q1 : ¬ 9223372036854775807 < 2 + W.size + 1 := by omega
    have q2 : ¬ 9223372036854775807 < 2 + W.size + 1 + S.size := by omega
    have q3 : ¬ 9223372036854775807 < 2 + W.size + 1 + S.size + 2 := by omega
    have he : (⟨#[32, 32]⟩ : ByteArray) ++ W ++ ⟨#[32]⟩ ++ S ++ ⟨#[59, 10]⟩ = bs (lineL wd s) := by
      unfold lineL
      rw [if_neg h0, hW, hS, show (⟨#[32, 32]⟩ : ByteArray) = bs [32, 32] from rfl, show (⟨#[32]⟩ : ByteArray) = bs [32] from rfl, show (⟨#[59, 10]⟩ : ByteArray) = bs [59, 10] from rfl, bs_app, bs_app, bs_app, bs_app]
    have hll := lineL_len wd s
    have HC := Lib.hid (wstr_ps B b l _ (lineL wd s) he w h (by omega) hBw)
    clear hW hS h0 h he hll zw zs
    go_enter Tryz.func48, Tryz.ntmps48
    go_wp2_with (first | (go_at_call 49; refine (HC.out).mono ?_; rintro e w1 ⟨rfl, hp⟩))
    go_end0
    exact ⟨rfl, hp⟩
theorem rep_num {W : World} {P : Nat → Prop} {d : Nd} {t : Tr} (h : Rep W P d t) : d.n = trN t := by cases h; rfl
def PrRel (W : World) (l : List Rl) (s10 : Value) (X : World) : Prop :=
  ∃ k : Nat, k ≤ l.length ∧ s10 = .int .i64 k ∧ Lib.IsBuilder 77 5 W.heap.size W.heap.size (Lib.byteCells (printL (l.take k))) X ∧ Ext W X
theorem RX.kept {w w' : World} {b g : Nat} {d : RlD} (h : RX w g d) (hk : KeptB b w w') (hg : g ≠ b) : RX w' g d := (hk g _ 50 _ h (by decide) hg).trans h
structure PQ (W : World) (g6 : Nat) (d : RlD) (l : List UInt8) (X : World) : Prop where
  bld : Lib.IsBuilder 77 5 W.heap.size W.heap.size (Lib.byteCells l) X
  ext : Ext W X
  rx : RX X g6 d
  gb : W.heap.size < g6
theorem PQ.step {W X X' : World} {g6 : Nat} {d : RlD} {l l' : List UInt8} (h : PQ W g6 d l X) (hp : PS W.heap.size W.heap.size l' X X') : PQ W g6 d l' X' :=
  ⟨hp.bld, Below.trans h.ext hp.bel, h.rx.kept hp.kep (by have := h.gb; omega), h.gb⟩
theorem PQ.extd {W X X' : World} {g6 : Nat} {d : RlD} {l : List UInt8} (h : PQ W g6 d l X) (hx : Ext X X') : PQ W g6 d l X' :=
  ⟨IsB.ext h.bld hx, h.ext.trans hx, (hx.block _ (lt_of_block h.rx)).trans h.rx, h.gb⟩
/-- A rule of a row in memory. -/
theorem RW.at_ {W : World} {P : Nat → Prop} {A : Option Addr} {n : Nat} {ts : List Rl} (h : RW W P A n ts) {i : Nat} (hi : i < ts.length) :
    ∃ (g off : Nat) (d : RlD) (t : Rl), A = some ⟨g, off, none⟩ ∧ g < W.heap.size ∧ ts[i]? = some t ∧ t ∈ ts ∧ RepR W P d t ∧ W.cell? ⟨g, off + i * 13, none⟩ = some (.string d.name) ∧ W.cell? ⟨g, off + i * 13 + 1, none⟩ = some (.int .i64 d.from_) ∧ W.cell? ⟨g, off + i * 13 + 2, none⟩ = some (.string d.on_) ∧ W.cell? ⟨g, off + i * 13 + 3, none⟩ = some (.int .i64 d.if_.k) ∧ W.cell? ⟨g, off + i * 13 + 4, none⟩ = some (.int .i64 d.if_.n) ∧ W.cell? ⟨g, off + i * 13 + 5, none⟩ = some (.string d.if_.s) ∧ W.cell? ⟨g, off + i * 13 + 6, none⟩ = some (.slice d.if_.A d.if_.m d.if_.c) ∧ W.cell? ⟨g, off + i * 13 + 7, none⟩ = some (.int .i64 d.due.k) ∧ W.cell? ⟨g, off + i * 13 + 8, none⟩ = some (.int .i64 d.due.n) ∧ W.cell? ⟨g, off + i * 13 + 9, none⟩ = some (.string d.due.s) ∧ W.cell? ⟨g, off + i * 13 + 10, none⟩ = some (.slice d.due.A d.due.m d.due.c) ∧ W.cell? ⟨g, off + i * 13 + 11, none⟩ = some (.string d.unless_) ∧ W.cell? ⟨g, off + i * 13 + 12, none⟩ = some (.string d.else_) := by
  obtain ⟨ds, h1, h2, h3, h4, h5⟩ := h
  obtain ⟨g, off, e, hg, hc⟩ := h3.2 (by omega)
  have hd : ds[i]? = some ds[i] := List.getElem?_eq_getElem (by omega)
  have ht : ts[i]? = some ts[i] := List.getElem?_eq_getElem hi
  refine ⟨g, off, ds[i], ts[i], e, hg, ht, List.mem_of_getElem? ht, h5 i _ _ hd ht, ?_, hc i _ hd 1 _ rfl, hc i _ hd 2 _ rfl, hc i _ hd 3 _ rfl, hc i _ hd 4 _ rfl, hc i _ hd 5 _ rfl, hc i _ hd 6 _ rfl, hc i _ hd 7 _ rfl, hc i _ hd 8 _ rfl, hc i _ hd 9 _ rfl, hc i _ hd 10 _ rfl, hc i _ hd 11 _ rfl, hc i _ hd 12 _ rfl⟩
  have := hc i _ hd 0 _ rfl
  rwa [Nat.add_zero] at this
set_option maxHeartbeats 8000000 in
set_option maxRecDepth 100000 in
theorem pprint_any (P : Nat → Prop) (A : Option Addr) (c : Nat) (l : List Rl) (W : World) (hl : l.length ≤ 100000) (hG : ∀ r ∈ l, GR r) (h : RW W P A l.length l) (htab : Tab W) : Calls Tryz.prog 23 #[.slice A l.length c] W (StrPost (printL l) W) := by
  have HRW := Lib.hid h
  have HTB := Lib.hid htab
  have HG := Lib.hid hG
  have HLN := Lib.hid (fun k => (Nat.le_trans (printL_len (l := l.take k) (fun r hr => hG r (List.mem_of_mem_take hr))) (Nat.mul_le_mul_right _ (by rw [List.length_take]; omega)) : (printL (l.take k)).length ≤ 100000 * 30000000))
  have hb0 : Lib.IsBuilder 77 5 W.heap.size W.heap.size (Lib.byteCells []) (W.alloc (.cells #[.pointer none, .slice none 0 0] 77)) := .inl ⟨Nat.le_refl _, .slice none 0 0, heap_alloc_new _ _, World.ownsRow_nil _ _ _ _, by simp [Value.ownBlock]⟩
  have HST := Lib.hid (show PrRel W l (.int .i64 0) (W.alloc (.cells #[.pointer none, .slice none 0 0] 77)) from ⟨0, Nat.zero_le _, rfl, hb0, (Ext.refl _).alloc _⟩)
  have hmf : ∀ (fn : Fn) (first cap : Array Value) (w : World), (Instr.makeFunc fn first cap).run Tryz.prog w = .ok (.func fn first cap) w := fun _ _ _ _ => rfl
  clear h htab hG hb0
  go_enter Tryz.func23, Tryz.ntmps23
  go_wp2
  go_loopw [10] (fun s10 X => PrRel W l s10 X) (fun s10 _ => toM l.length s10)
  case atStart => exact HST.out
  case round =>
    clear HST
    obtain ⟨k, hk, rfl, hbd, hx⟩ := hrel
    have HBD := Lib.hid hbd
    have HX := Lib.hid hx
    clear hbd hx
    by_cases hlt : k < l.length
    · have hlt' : (k : Int) < l.length := by omega
      obtain ⟨g, off, d, r, hA, hg, hr, hm, hrp, p0, p1, p2, p3, p4, p5, p6, p7, p8, p9, p10, p11, p12⟩ := HRW.out.at_ hlt
      subst hA
      replace p0 := cells_ext p0 HX.out
      replace p1 := cells_ext p1 HX.out
      replace p2 := cells_ext p2 HX.out
      replace p3 := cells_ext p3 HX.out
      replace p4 := cells_ext p4 HX.out
      replace p5 := cells_ext p5 HX.out
      replace p6 := cells_ext p6 HX.out
      replace p7 := cells_ext p7 HX.out
      replace p8 := cells_ext p8 HX.out
      replace p9 := cells_ext p9 HX.out
      replace p10 := cells_ext p10 HX.out
      replace p11 := cells_ext p11 HX.out
      replace p12 := cells_ext p12 HX.out
      have hgr := HG.out r hm
      have HFI := Lib.hid (printL_step l k r hr)
      have hbs := HX.out.lt
      have hbl := IsB.lt HBD.out
      have hl0 := HLN.out k
      obtain ⟨l0, hl0e⟩ : ∃ x, x = printL (l.take k) := ⟨_, rfl⟩
      rw [← hl0e] at hl0 HFI HBD
      clear hl0e hr hm
      have HRI := Lib.hid hrp.if_
      have HRD := Lib.hid hrp.due
      have HNM := Lib.hid hrp.name
      have HON := Lib.hid hrp.on_
      have HUN := Lib.hid hrp.unless_
      have HEL := Lib.hid hrp.else_
      have hfr := hrp.from_
      have HKI := Lib.hid (rep_kind hrp.if_)
      have HNI := Lib.hid (rep_num hrp.if_)
      clear hrp
      obtain ⟨dn, df, don, di, dd, du, de⟩ := d
      simp only at hfr p0 p1 p2 p3 p4 p5 p6 p7 p8 p9 p10 p11 p12 HRI HRD HNM HON HUN HEL HKI HNI
      obtain ⟨m, hmm⟩ := Int.eq_ofNat_of_zero_le hgr.fr.1
      have hm2 : m ≤ 3652058 := by have := hgr.fr.2; omega
      rw [hmm] at hfr
      subst hfr
      have HGR := Lib.hid hgr
      have HMM := Lib.hid hmm
      have hnl := hgr.nm
      have hol := hgr.on_
      have hul := hgr.un
      have hel := hgr.el
      have hil := Nat.le_trans (showT_len hgr.ti) hgr.bi
      have hdl := Nat.le_trans (showT_len hgr.td) hgr.bd
      clear hgr hmm
      have hX1 : Ext wr (wr.alloc (.cells #[.string dn, .int .i64 m, .string don, .int .i64 di.k, .int .i64 di.n, .string di.s, .slice di.A di.m di.c, .int .i64 dd.k, .int .i64 dd.n, .string dd.s, .slice dd.A dd.m dd.c, .string du, .string de] 50)) := (Ext.refl _).alloc _
      have HPQ := Lib.hid (show PQ W wr.heap.size ⟨dn, m, don, di, dd, du, de⟩ l0 (wr.alloc (.cells #[.string dn, .int .i64 m, .string don, .int .i64 di.k, .int .i64 di.n, .string di.s, .slice di.A di.m di.c, .int .i64 dd.k, .int .i64 dd.n, .string dd.s, .slice dd.A dd.m dd.c, .string du, .string de] 50)) from ⟨IsB.ext HBD.out hX1, HX.out.trans hX1, heap_alloc_new _ _, hbl⟩)
      clear hX1 HBD
      go_upto_region 6 with (fail)
      clear p0 p1 p2 p3 p4 p5 p6 p7 p8 p9 p10 p11 p12
      generalize wr.alloc (.cells #[.string dn, .int .i64 m, .string don, .int .i64 di.k, .int .i64 di.n, .string di.s, .slice di.A di.m di.c, .int .i64 dd.k, .int .i64 dd.n, .string dd.s, .slice dd.A dd.m dd.c, .string du, .string de] 50) = w1 at *
      generalize wr.heap.size = g6 at *
      obtain ⟨D, hD⟩ : ∃ D, D = bs (prL m) := ⟨_, rfl⟩
      have hDs : D.size = 10 := by rw [hD, bs_size, prL_size hm2]
      have hdns : dn.size = r.name.length := by rw [HNM.out, bs_size]
      have q0 : ¬ 9223372036854775807 < 5 + dn.size := by omega
      have q1 : ¬ 9223372036854775807 < 5 + dn.size + 7 := by omega
      have q2 : ¬ 9223372036854775807 < 5 + dn.size + 7 + D.size := by omega
      have q3 : ¬ 9223372036854775807 < 5 + dn.size + 7 + D.size + 3 := by omega
      have he : (⟨#[114, 117, 108, 101, 32]⟩ : ByteArray) ++ dn ++ ⟨#[32, 102, 114, 111, 109, 32, 64]⟩ ++ D ++ ⟨#[32, 123, 10]⟩ = bs ([114, 117, 108, 101, 32] ++ r.name ++ [32, 102, 114, 111, 109, 32, 64] ++ prL m ++ [32, 123, 10]) := by
        rw [HNM.out, hD, show (⟨#[114, 117, 108, 101, 32]⟩ : ByteArray) = bs [114, 117, 108, 101, 32] from rfl, show (⟨#[32, 102, 114, 111, 109, 32, 64]⟩ : ByteArray) = bs [32, 102, 114, 111, 109, 32, 64] from rfl, show (⟨#[32, 123, 10]⟩ : ByteArray) = bs [32, 123, 10] from rfl, bs_app, bs_app, bs_app, bs_app]
      obtain ⟨L1, hL1⟩ : ∃ x, x = [114, 117, 108, 101, 32] ++ r.name ++ [32, 102, 114, 111, 109, 32, 64] ++ prL m ++ [32, 123, 10] := ⟨_, rfl⟩
      rw [← hL1] at he
      have hL1l : L1.length ≤ 200000 := by rw [hL1]; simp only [List.length_append, List.length_cons, List.length_nil]; rw [prL_size hm2]; omega
      have HL1 := Lib.hid hL1
      have HD := Lib.hid (fun X (hX : Ext w1 X) => (show Calls Tryz.prog 50 #[.int .i64 (m : Nat)] X (fun e X' => e = .returned (.string D) ∧ Ext X X') from by
        have h9 := print_any m X hm2 (HTB.out.ext (HPQ.out.ext.trans hX))
        unfold StrPost at h9
        rw [hD]; exact h9))
      have HW := Lib.hid (fun X (hX : Ext w1 X) => wstr_ps W.heap.size W.heap.size l0 _ L1 he X (HPQ.out.extd hX).bld (by omega) (HPQ.out.extd hX).ext.lt)
      have HQ := Lib.hid (fun X (hX : KeptB W.heap.size w1 X) => (show X.cell? ⟨g6, 0, none⟩ = some (.string dn) ∧ X.cell? ⟨g6, 1, none⟩ = some (.int .i64 (m : Nat)) from by
        have h9 := (HPQ.out.rx.kept hX (by have := HPQ.out.gb; omega)).cs
        exact ⟨h9.1, h9.2.1⟩))
      obtain ⟨p0, p1⟩ := HQ.out w1 (KeptB.refl _ _)
      have hcur : KeptB W.heap.size w1 w1.drew := KeptB.of_ext (Ext.refl _).drew
      have hcurx : Ext w1 w1.drew := (Ext.refl _).drew
      clear hD hDs hdns he hL1
      go_region_held3 (fun X => X.cell? ⟨g6, 0, none⟩ = some (.string dn) ∧ X.cell? ⟨g6, 1, none⟩ = some (.int .i64 (m : Nat))) (first | exact HQ.out _ hcur | go_keep)
        (first
          | (go_at_call 50; refine (HD.out _ hcurx).mono ?_; rintro e wn ⟨rfl, hx⟩; have hcurx := hcurx.trans hx; have hcur := hcur.trans (KeptB.of_ext hx); clear hx)
          | (go_at_call 49; refine (HW.out _ hcurx).mono ?_; rintro e wm ⟨rfl, hps⟩; have HPQ1 := Lib.hid ((HPQ.out.extd hcurx).step hps); have hcur := hcur.trans hps.kep; clear hps))
      clear p0 p1 q0 q1 q2 q3 HD HW HQ hcur hcurx HPQ
      generalize hl1 : l0 ++ L1 = l1 at *
      have hl1l : l1.length ≤ 3001000000000 := by rw [← hl1]; simp; omega
      have HLL1 := Lib.hid hl1
      clear hl1
      have k2 := HPQ1.out.rx.cs.2.2.1
      have HC := Lib.hid (pline_any W.heap.size W.heap.size l1 ⟨#[111, 110]⟩ don [111, 110] r.on_ rfl HON.out (by decide) (by omega) _ HPQ1.out.bld (by omega) HPQ1.out.ext.lt)
      go_upto_region 8 with (first | (go_at_call 48; refine (HC.out).mono ?_; rintro e w2 ⟨rfl, hps⟩; have HPQ2 := Lib.hid (HPQ1.out.step hps); clear hps))
      clear k2 HC HPQ1
      have h2l := lineL_len [111, 110] r.on_
      generalize hl2 : l1 ++ lineL [111, 110] r.on_ = l2 at *
      have hl2l : l2.length ≤ 3002000000000 := by rw [← hl2]; simp at h2l ⊢; omega
      have HLL2 := Lib.hid hl2
      clear hl2 h2l
      obtain ⟨k0, k1, k2, k3, k4, k5, k6, k7, k8, k9, k10, k11, k12⟩ := HPQ2.out.rx.cs
      simp only at k3 k4 k5 k6
      go_cut [37] (fun s37 wx => s37 = .bool (!decide (trK r.if_ = 2 ∧ trN r.if_ = 1)) ∧ PQ W g6 ⟨dn, m, don, di, dd, du, de⟩ l2 wx)
      case first =>
        by_cases hk2 : trK r.if_ = 2
        · have t1 : (di.k != 2) = false := by rw [HKI.out]; simp [hk2]
          by_cases hn1 : trN r.if_ = 1
          · have t2 : (di.n != 1) = false := by rw [HNI.out]; simp [hn1]
            have HV := Lib.hid (show (!decide (trK r.if_ = 2 ∧ trN r.if_ = 1)) = false by simp [hk2, hn1])
            clear hk2 hn1
            go_wp2
            go_meet
            case rel => rw [HV.out]; exact ⟨rfl, HPQ2.out⟩
          · have t2 : (di.n != 1) = true := by rw [HNI.out, bne_iff_ne]; exact hn1
            have HV := Lib.hid (show (!decide (trK r.if_ = 2 ∧ trN r.if_ = 1)) = true by simp [hk2, hn1])
            clear hk2 hn1
            go_wp2
            go_meet
            case rel => rw [HV.out]; exact ⟨rfl, HPQ2.out⟩
        · have t1 : (di.k != 2) = true := by rw [HKI.out, bne_iff_ne]; exact hk2
          have HV := Lib.hid (show (!decide (trK r.if_ = 2 ∧ trN r.if_ = 1)) = true by simp [hk2])
          clear hk2
          go_wp2
          go_meet
          case rel => rw [HV.out]; exact ⟨rfl, HPQ2.out⟩
      case rest =>
      obtain ⟨rfl, hpq2⟩ := hcut
      clear HPQ2 k0 k1 k2 k3 k4 k5 k6 k7 k8 k9 k10 k11 k12
      have HPQ2 := Lib.hid hpq2
      clear hpq2
      generalize wc = w2b at *
      obtain ⟨k0, k1, k2, k3, k4, k5, k6, k7, k8, k9, k10, k11, k12⟩ := HPQ2.out.rx.cs
      simp only at k3 k4 k5 k6
      obtain ⟨bv, hbv⟩ : ∃ b, b = !decide (trK r.if_ = 2 ∧ trN r.if_ = 1) := ⟨_, rfl⟩
      rw [← hbv]
      have HBV := Lib.hid hbv
      clear hbv
      go_upto_if 37 with (fail)
      go_cut [38] (fun s38 wx => PQ W g6 ⟨dn, m, don, di, dd, du, de⟩ (l2 ++ ifL r.if_) wx)
      case first =>
        cases bv with
        | false =>
          have HIF := Lib.hid (show ifL r.if_ = [] from if_pos (by have := HBV.out; simpa using this))
          go_wp2
          go_meet
          case rel => rw [HIF.out, List.append_nil]; exact HPQ2.out
        | true =>
          have HIF := Lib.hid (show ifL r.if_ = lineL [105, 102] (showT r.if_) from if_neg (fun h => by have := HBV.out; simp [h] at this))
          obtain ⟨SI, hSI⟩ : ∃ S, S = bs (showT r.if_) := ⟨_, rfl⟩
          have HSH := Lib.hid (show Calls Tryz.prog 26 #[.agg #[.int .i64 di.k, .int .i64 di.n, .string di.s, .slice di.A di.m di.c]] w2b (fun e X' => e = .returned (.string SI) ∧ Ext w2b X') from by
            have h9 := pshow_any (tsz r.if_ + 1) r.if_ di P w2b (by omega) HGR.out.ti HGR.out.bi (HRI.out.ext HPQ2.out.ext) (HTB.out.ext HPQ2.out.ext)
            unfold StrPost at h9
            rw [hSI]; exact h9)
          have HC := Lib.hid (fun X (hX : Ext w2b X) => pline_any W.heap.size W.heap.size l2 ⟨#[105, 102]⟩ SI [105, 102] (showT r.if_) rfl hSI (by decide) hil X (HPQ2.out.extd hX).bld (by omega) (HPQ2.out.extd hX).ext.lt)
          clear hSI
          go_wp2_with (first
            | (go_at_call 26; refine (HSH.out).mono ?_; rintro e w3 ⟨rfl, hx3⟩)
            | (go_at_call 48; refine (HC.out _ hx3).mono ?_; rintro e w4 ⟨rfl, hps⟩))
          go_meet
          case rel => rw [HIF.out]; exact (HPQ2.out.extd hx3).step hps
      case rest =>
        have HPQ3 := Lib.hid hcut
        clear hcut HPQ2 k0 k1 k2 k3 k4 k5 k6 k7 k8 k9 k10 k11 k12
        have h3l : (ifL r.if_).length ≤ 20000000 := by
          unfold ifL
          split
          · exact Nat.zero_le _
          · have := lineL_len [105, 102] (showT r.if_)
            simp at this; omega
        generalize hl3 : l2 ++ ifL r.if_ = l3 at *
        have hl3l : l3.length ≤ 3003000000000 := by rw [← hl3]; simp; omega
        have HLL3 := Lib.hid hl3
        clear hl3 h3l
        obtain ⟨SD, hSD⟩ : ∃ S, S = bs (showT r.due) := ⟨_, rfl⟩
        have HSH := Lib.hid (show Calls Tryz.prog 26 #[.agg #[.int .i64 dd.k, .int .i64 dd.n, .string dd.s, .slice dd.A dd.m dd.c]] wc (fun e X' => e = .returned (.string SD) ∧ Ext wc X') from by
          have h9 := pshow_any (tsz r.due + 1) r.due dd P wc (by omega) HGR.out.td HGR.out.bd (HRD.out.ext HPQ3.out.ext) (HTB.out.ext HPQ3.out.ext)
          unfold StrPost at h9
          rw [hSD]; exact h9)
        have HC := Lib.hid (fun X (hX : Ext wc X) => pline_any W.heap.size W.heap.size l3 ⟨#[100, 117, 101]⟩ SD [100, 117, 101] (showT r.due) rfl hSD (by decide) hdl X (HPQ3.out.extd hX).bld (by omega) (HPQ3.out.extd hX).ext.lt)
        clear hSD
        obtain ⟨k0, k1, k2, k3, k4, k5, k6, k7, k8, k9, k10, k11, k12⟩ := HPQ3.out.rx.cs
        simp only at k7 k8 k9 k10
        go_upto_region 11 with (first
          | (go_at_call 26; refine (HSH.out).mono ?_; rintro e w3 ⟨rfl, hx3⟩)
          | (go_at_call 48; refine (HC.out _ hx3).mono ?_; rintro e w4 ⟨rfl, hps⟩))
        have HPQ4 := Lib.hid ((HPQ3.out.extd hx3).step hps)
        clear hps hx3 HPQ3 HC HSH k0 k1 k2 k3 k4 k5 k6 k7 k8 k9 k10 k11 k12
        have h4l := lineL_len [100, 117, 101] (showT r.due)
        generalize hl4 : l3 ++ lineL [100, 117, 101] (showT r.due) = l4 at *
        have hl4l : l4.length ≤ 3004000000000 := by rw [← hl4]; simp at h4l ⊢; omega
        have HLL4 := Lib.hid hl4
        clear hl4 h4l
        have k11 := HPQ4.out.rx.cs.2.2.2.2.2.2.2.2.2.2.2.1
        have HC := Lib.hid (pline_any W.heap.size W.heap.size l4 ⟨#[117, 110, 108, 101, 115, 115]⟩ du [117, 110, 108, 101, 115, 115] r.unless_ rfl HUN.out (by decide) (by omega) _ HPQ4.out.bld (by omega) HPQ4.out.ext.lt)
        go_upto_region 12 with (first | (go_at_call 48; refine (HC.out).mono ?_; rintro e w5 ⟨rfl, hps⟩; have HPQ5 := Lib.hid (HPQ4.out.step hps); clear hps))
        clear k11 HC HPQ4
        have h5l := lineL_len [117, 110, 108, 101, 115, 115] r.unless_
        generalize hl5 : l4 ++ lineL [117, 110, 108, 101, 115, 115] r.unless_ = l5 at *
        have hl5l : l5.length ≤ 3005000000000 := by rw [← hl5]; simp at h5l ⊢; omega
        have HLL5 := Lib.hid hl5
        clear hl5 h5l
        have k12 := HPQ5.out.rx.cs.2.2.2.2.2.2.2.2.2.2.2.2
        have HC := Lib.hid (pline_any W.heap.size W.heap.size l5 ⟨#[101, 108, 115, 101]⟩ de [101, 108, 115, 101] r.else_ rfl HEL.out (by decide) (by omega) _ HPQ5.out.bld (by omega) HPQ5.out.ext.lt)
        go_upto_region 13 with (first | (go_at_call 48; refine (HC.out).mono ?_; rintro e w6 ⟨rfl, hps⟩; have HPQ6 := Lib.hid (HPQ5.out.step hps); clear hps))
        clear k12 HC HPQ5
        have h6l := lineL_len [101, 108, 115, 101] r.else_
        generalize hl6 : l5 ++ lineL [101, 108, 115, 101] r.else_ = l6 at *
        have hl6l : l6.length ≤ 3006000000000 := by rw [← hl6]; simp at h6l ⊢; omega
        have HLL6 := Lib.hid hl6
        clear hl6 h6l
        have HC := Lib.hid (wstr_ps W.heap.size W.heap.size l6 ⟨#[125, 10]⟩ [125, 10] rfl _ HPQ6.out.bld (by simp; omega) HPQ6.out.ext.lt)
        go_wp2_with (first | (go_at_call 49; refine (HC.out).mono ?_; rintro e w7 ⟨rfl, hps⟩))
        have hq := HPQ6.out.step hps
        have hfin : l6 ++ [125, 10] = printL (l.take (k + 1)) := by
          rw [HFI.out, ← HLL6.out, ← HLL5.out, ← HLL4.out, ← HLL3.out, ← HLL2.out, ← HLL1.out, HL1.out]
          unfold ruleL
          rw [HMM.out]
          simp only [List.append_assoc, Int.toNat_natCast]
        refine ⟨⟨k + 1, by omega, by simp, ?_, hq.ext⟩, by simp only [toM]; omega⟩
        rw [← hfin]; exact hq.bld
    · obtain rfl : k = l.length := by omega
      have hni : ¬ ((l.length : Int) < (l.length : Int)) := by omega
      have HS := Lib.hid (show Calls Tryz.prog 51 #[.pointer (some ⟨W.heap.size, 0, none⟩)] wr (StrPost (printL l) W) from by
        have hb9 := HBD.out
        rw [List.take_length] at hb9
        refine (Tryz.Builder_String_any W.heap.size W.heap.size (printL l) wr hb9 HX.out.lt).mono ?_
        rintro e w9 ⟨rfl, hb⟩
        exact ⟨rfl, Below.trans HX.out hb⟩)
      clear HBD
      go_wp2_with (first | (go_at_call 51; refine (HS.out).mono ?_; rintro e w9 ⟨rfl, hx9⟩))
      go_ret
      exact ⟨rfl, hx9⟩
end Go.Proofs.YtnpenepdechkjaaGreatDoor

/- The examples of the chapter, in plain Lean. -/
namespace Go.Proofs.YtnpenepdechkjaaGreatDoor
open Go

/-- The lexer with fuel: what the kernel can reckon. -/
def lexF : Nat → Nat → List UInt8 → LexR
  | 0, k, s => ⟨[endT (k + s.length)], 0, 0⟩
  | m + 1, k, s => match skipB false s with
    | [] => ⟨[endT (k + s.length)], 0, 0⟩
    | c :: r => match tok1 (c :: r) with
      | .err e => ⟨[], (k + (s.length - (c :: r).length) : Nat), e⟩
      | .ok kd n v => (lexF m (k + (s.length - (c :: r).length) + n) ((c :: r).drop n)).put ⟨kd, (k + (s.length - (c :: r).length) : Nat), (c :: r).take n, v⟩
theorem lexF_eq : ∀ (m k : Nat) (s : List UInt8), s.length ≤ m → lexF m k s = lexW k s
  | 0, k, s, h => by
    obtain rfl : s = [] := List.length_eq_zero_iff.1 (by omega)
    rw [lex_end (k := k) (s := []) rfl]; rfl
  | m + 1, k, s, h => by
    rw [lexF]
    cases hs : skipB false s with
    | nil => rw [lex_end hs]; rfl
    | cons c r =>
      simp only
      have hne : skipB false s ≠ [] := by rw [hs]; simp
      cases ht : tok1 (c :: r) with
      | err e =>
        rw [lex_err hne (by rw [hs]; exact ht), hs]
      | ok kd n v =>
        have hn := (tok1_len ht).1
        have hl := skipB_len false s
        rw [hs] at hl
        rw [lex_ok hne (by rw [hs]; exact ht) hn, hs]
        simp only
        rw [lexF_eq m _ _ (by simp only [List.length_drop]; simp only [List.length_cons] at hl ⊢; omega)]
theorem lexT_of {s : List UInt8} {r : LexR} (h : lexF s.length 0 s = r) (hl : s.length ≤ 4000) : lexT s = r := by
  rw [lexT, if_neg (by omega), ← lexF_eq _ 0 s (Nat.le_refl _), h]
theorem parseE_of {s : List UInt8} {r : LexR} {y : Tr × Int × Int} (h : lexF s.length 0 s = r) (hl : s.length ≤ 4000) (h2 : parseG EX (.nd 0 0 [] []) r = y) : parseE s = y := by
  unfold parseE; rw [lexT_of h hl, h2]
theorem parseR_of {s : List UInt8} {r : LexR} {y : List Rl × Int × Int} (h : lexF s.length 0 s = r) (hl : s.length ≤ 4000) (h2 : parseG (RP EX []) [] r = y) : parseR s = y := by
  unfold parseR; rw [lexT_of h hl, h2]
def exSrc : List UInt8 := [114, 117, 108, 101, 32, 114, 101, 112, 108, 121, 32, 102, 114, 111, 109, 32, 64, 50, 48, 50, 54, 45, 48, 49, 45, 48, 49, 32, 123, 32, 111, 110, 32, 99, 108, 97, 105, 109, 59, 32, 100, 117, 101, 32, 100, 97, 121, 32, 43, 32, 50, 48, 32, 100, 97, 121, 115, 59, 32, 117, 110, 108, 101, 115, 115, 32, 97, 110, 115, 119, 101, 114, 59, 32, 101, 108, 115, 101, 32, 108, 97, 112, 115, 101, 59, 32, 125]
def exRule : Rl := ⟨[114, 101, 112, 108, 121], 739616, [99, 108, 97, 105, 109], trTrue, .nd 7 0 wDays [.nd 4 0 wDay [], .nd 1 20 [] []], [97, 110, 115, 119, 101, 114], [108, 97, 112, 115, 101]⟩
theorem ex1 : parseR exSrc = ([exRule], 0, 0) := parseR_of (r := lexF exSrc.length 0 exSrc) rfl (by decide) (by kernel_rfl)
theorem ex2 : parseR [114, 117, 108, 101, 32, 100, 117, 101] = ([], 5, 20) := parseR_of (r := lexF 8 0 [114, 117, 108, 101, 32, 100, 117, 101]) rfl (by decide) (by kernel_rfl)
theorem ex3 : parseE [51, 32, 100, 97, 121, 115] = (.nd 0 0 [] [], 2, 20) := parseE_of (r := lexF 6 0 [51, 32, 100, 97, 121, 115]) rfl (by decide) (by kernel_rfl)
theorem ex4 : parseE [110, 101, 120, 116, 40, 100, 97, 121, 44, 32, 100, 97, 121, 41] = (.nd 0 0 [] [], 8, 20) := parseE_of (r := lexF 14 0 [110, 101, 120, 116, 40, 100, 97, 121, 44, 32, 100, 97, 121, 41]) rfl (by decide) (by kernel_rfl)
theorem ex5 : parseE [45, 45, 45, 45, 45, 45, 45, 45, 45, 45, 45, 45, 45, 49] = (.nd 0 0 [] [], 12, 2) := parseE_of (r := lexF 14 0 [45, 45, 45, 45, 45, 45, 45, 45, 45, 45, 45, 45, 45, 49]) rfl (by decide) (by kernel_rfl)
def exRight : Tr := .nd 6 0 wMinus [.nd 1 1 [] [], .nd 6 0 wMinus [.nd 1 2 [] [], .nd 1 3 [] []]]
theorem ex6 : showT exRight = [49, 32, 45, 32, 40, 50, 32, 45, 32, 51, 41] := by kernel_rfl
def exPr : List UInt8 := [114, 117, 108, 101, 32, 114, 101, 112, 108, 121, 32, 102, 114, 111, 109, 32, 64, 50, 48, 50, 54, 45, 48, 49, 45, 48, 49, 32, 123, 10, 32, 32, 111, 110, 32, 99, 108, 97, 105, 109, 59, 10, 32, 32, 100, 117, 101, 32, 100, 97, 121, 32, 43, 32, 50, 48, 32, 100, 97, 121, 115, 59, 10, 32, 32, 117, 110, 108, 101, 115, 115, 32, 97, 110, 115, 119, 101, 114, 59, 10, 32, 32, 101, 108, 115, 101, 32, 108, 97, 112, 115, 101, 59, 10, 125, 10]
theorem ex7 : printL [exRule] = exPr := by kernel_rfl
theorem ex8 : GR exRule := ⟨by decide, .bool 1 (.inr rfl), .aft 7 wDays _ _ (.inl rfl) (by decide) (.field wDay (by decide)) (.num 20 (by decide)), by decide, by decide, by decide, by decide, by decide, by decide⟩
theorem ex9 : GT exRight := .bin wMinus _ _ (by decide) (.num 1 (by decide)) (.bin wMinus _ _ (by decide) (.num 2 (by decide)) (.num 3 (by decide)))
end Go.Proofs.YtnpenepdechkjaaGreatDoor

/- The law's fails and lives. -/
namespace Go.Proofs.YtnpenepdechkjaaGreatDoor
open Go Go.RowKit

/-- What the walks of the laws ask of the world. -/
def EnvP (w : World) : Prop := Env13 w ∧ Tab w
theorem EnvP.ext {w w' : World} (h : EnvP w) (hx : Ext w w') : EnvP w' := ⟨h.1.ext hx, h.2.ext hx⟩
theorem SL.new {α : Type} {cf : α → List Value} {sz : Nat} (hcf : ∀ a, (cf a).length = sz) (w : World) (l : List α) (cs : Array Value) (hcs : cs.toList = gcells cf l) (t : TypeId) : SL cf sz (w.alloc (.cells cs t)) (some ⟨w.heap.size, 0, none⟩) l.length l := by
  refine ⟨rfl, fun _ => ⟨w.heap.size, 0, rfl, by simp, fun i a hi j u hu => ?_⟩⟩
  have hj : j < sz := by rw [← hcf a]; exact (List.getElem?_eq_some_iff.1 hu).1
  rw [cell_of_row _ w.heap.size _ _ t (0, 0) (heap_alloc_new w _)]
  rw [← gcells_at hcf l i a hi j hj, ← hcs] at hu
  simpa using hu
theorem true_any (w : World) : Calls Tryz.prog 31 #[] w (fun e w' => e = .returned (.agg #[.int .i64 2, .int .i64 1, .string ⟨#[]⟩, .slice none 0 0]) ∧ Ext w w') := by
  go_enter Tryz.func31, Tryz.ntmps31
  go_wp2
  refine bodyPost_ret (v := .agg #[.int .i64 2, .int .i64 1, .string ⟨#[]⟩, .slice none 0 0]) (by simp [results, Tryz.results31, go_sem, *]) rfl ?_
  exact ⟨rfl, (Ext.refl w).alloc _⟩
set_option maxHeartbeats 2000000 in
set_option maxRecDepth 100000 in
theorem fails_any (s : ByteArray) (at_ e : Int) (h : parseE s.data.toList = (.nd 0 0 [] [], at_, e)) (hs : s.size ≤ 281474976710656) (w : World) (hE : EnvP w) : Calls Tryz.prog 38 #[.string s, .int .i64 at_, .int .i64 e] w (BQ2 true w) := by
  have HC := Lib.hid (pExpr_any s w hs hE.1)
  rw [h] at HC
  have HS := Lib.hid (fun (d : Nd) X (hr : Rep X (fun k => w.heap.size ≤ k) d (.nd 0 0 [] [])) => (show Calls Tryz.prog 20 #[.agg #[.int .i64 d.k, .int .i64 d.n, .string d.s, .slice d.A d.m d.c], .agg #[.int .i64 0, .int .i64 0, .string ⟨#[]⟩, .slice none 0 0]] X (BQ2 true X) from
    same_any 1 (.nd 0 0 [] []) (.nd 0 0 [] []) d ⟨0, 0, ⟨#[]⟩, none, 0, 0⟩ _ (fun _ => True) X (by decide) (by decide) (by decide) hr (Rep.leaf _ _ 0 0 [])))
  clear h hE
  go_enter Tryz.func38, Tryz.ntmps38
  go_upto_region 2 with (first | (go_at_call 18; refine (HC.out).mono ?_; rintro e1 w1 ⟨v, rfl, ⟨d, rfl, hrep⟩, hx⟩; have HREP := Lib.hid hrep; have HX := Lib.hid hx; clear hrep hx))
  have hx2 : Ext w1 (w1.alloc (.cells #[.int .i64 d.k, .int .i64 d.n, .string d.s, .slice d.A d.m d.c] 31)) := (Ext.refl _).alloc _
  obtain ⟨_, k0, k1, k2, k3, _, _, _, _⟩ := NX.nb (show NX (w1.alloc (.cells #[.int .i64 d.k, .int .i64 d.n, .string d.s, .slice d.A d.m d.c] 31)) w1.heap.size d.k d.n d.s (.slice d.A d.m d.c) from heap_alloc_new _ _)
  have HC2 := Lib.hid (HS.out d _ (HREP.out.ext hx2))
  have HX2 := Lib.hid (HX.out.trans hx2)
  clear hx2
  generalize w1.alloc (.cells #[.int .i64 d.k, .int .i64 d.n, .string d.s, .slice d.A d.m d.c] 31) = w2 at *
  generalize w1.heap.size = g at *
  go_wp2_with (first | (go_at_call 20; refine (HC2.out).mono ?_; rintro e2 w3 ⟨rfl, hx3⟩))
  go_ret
  exact ⟨rfl, HX2.out.trans hx3⟩
set_option maxHeartbeats 4000000 in
set_option maxRecDepth 100000 in
theorem lives_any (w : World) (hE : EnvP w) : Calls Tryz.prog 17 #[] w (BQ2 true w) := by
  have HE := Lib.hid hE
  have HP1 := Lib.hid (fun (S : ByteArray) (hS : S.data.toList = exSrc) X (hX : Ext w X) => (show Calls Tryz.prog 14 #[.string S] X (PaPost (RWl X.heap.size) X ([exRule], 0, 0)) from by
    have h9 := pParse_any S X (by have h8 : S.size = S.data.toList.length := by rw [Array.length_toList]; rfl
                                  rw [h8, hS]; decide) (hE.1.ext hX)
    rw [hS, ex1] at h9; exact h9))
  have HP2 := Lib.hid (fun X (hX : Ext w X) => (show Calls Tryz.prog 14 #[.string ⟨#[114, 117, 108, 101, 32, 100, 117, 101]⟩] X (PaPost (RWl X.heap.size) X ([], 5, 20)) from by
    have h9 := pParse_any ⟨#[114, 117, 108, 101, 32, 100, 117, 101]⟩ X (by decide) (hE.1.ext hX)
    have e9 : (⟨#[114, 117, 108, 101, 32, 100, 117, 101]⟩ : ByteArray).data.toList = [114, 117, 108, 101, 32, 100, 117, 101] := rfl
    rw [e9, ex2] at h9; exact h9))
  clear hE
  go_enter Tryz.func17, Tryz.ntmps17
  go_upto_region 7 with (first
    | (go_at_call 14; refine (HP1.out _ (by kernel_rfl) _ (Ext.refl _)).mono ?_; rintro e1 w1 ⟨v1, rfl, ⟨A1, c1, rfl, hrw⟩, hx1⟩; have HRW := Lib.hid hrw; have HX1 := Lib.hid hx1; clear hrw hx1)
    | (have hg := HX1; clear hg; go_at_call 14; refine (HP2.out _ HX1.out).mono ?_; rintro e2 w2 ⟨v2, rfl, ⟨A2, c2, rfl, hrw2⟩, hx2⟩; have HX2 := Lib.hid (HX1.out.trans hx2); have HX12 := Lib.hid hx2; clear hrw2 hx2))
  have hx3 : Ext w2 (w2.alloc (.cells #[.int .i64 1, .int .i64 1, .string ⟨#[]⟩, .slice none 0 0] 31)) := (Ext.refl _).alloc _
  have s3 : (w2.alloc (.cells #[.int .i64 1, .int .i64 1, .string ⟨#[]⟩, .slice none 0 0] 31)).heap.size = w2.heap.size + 1 := by simp
  generalize w2.alloc (.cells #[.int .i64 1, .int .i64 1, .string ⟨#[]⟩, .slice none 0 0] 31) = w3 at *
  rw [← s3] at *
  have hx4 : Ext w3 (w3.alloc (.cells #[.int .i64 1, .int .i64 2, .string ⟨#[]⟩, .slice none 0 0, .int .i64 1, .int .i64 3, .string ⟨#[]⟩, .slice none 0 0] 31)) := (Ext.refl _).alloc _
  have l4 := SL.new (cf := ndcf) (sz := 4) ndcf_len w3 [⟨1, 2, ⟨#[]⟩, none, 0, 0⟩, ⟨1, 3, ⟨#[]⟩, none, 0, 0⟩] #[.int .i64 1, .int .i64 2, .string ⟨#[]⟩, .slice none 0 0, .int .i64 1, .int .i64 3, .string ⟨#[]⟩, .slice none 0 0] rfl 31
  have r4 : Rep (w3.alloc (.cells #[.int .i64 1, .int .i64 2, .string ⟨#[]⟩, .slice none 0 0, .int .i64 1, .int .i64 3, .string ⟨#[]⟩, .slice none 0 0] 31)) (fun _ => True) ⟨6, 0, ⟨#[45]⟩, some ⟨w3.heap.size, 0, none⟩, 2, 2⟩ (.nd 6 0 wMinus [.nd 1 2 [] [], .nd 1 3 [] []]) :=
    .mk 6 0 wMinus _ 2 [⟨1, 2, ⟨#[]⟩, none, 0, 0⟩, ⟨1, 3, ⟨#[]⟩, none, 0, 0⟩] _ (fun x hx => ⟨trivial, by injection hx with hx; subst hx; simp⟩) l4 rfl (fun i h t h1 h2 => by
      have hi : i < 2 := (List.getElem?_eq_some_iff.1 h1).1
      obtain rfl | rfl : i = 0 ∨ i = 1 := by omega
      · simp only [List.getElem?_cons_zero, Option.some.injEq] at h1 h2
        subst h1 h2
        exact Rep.leaf _ _ 1 2 []
      · simp only [List.getElem?_cons_succ, List.getElem?_cons_zero, Option.some.injEq] at h1 h2
        subst h1 h2
        exact Rep.leaf _ _ 1 3 [])
  have s4 : (w3.alloc (.cells #[.int .i64 1, .int .i64 2, .string ⟨#[]⟩, .slice none 0 0, .int .i64 1, .int .i64 3, .string ⟨#[]⟩, .slice none 0 0] 31)).heap.size = w3.heap.size + 1 := by simp
  generalize w3.alloc (.cells #[.int .i64 1, .int .i64 2, .string ⟨#[]⟩, .slice none 0 0, .int .i64 1, .int .i64 3, .string ⟨#[]⟩, .slice none 0 0] 31) = w4 at *
  have hx5 : Ext w4 (w4.alloc (.cells #[.int .i64 6, .int .i64 0, .string ⟨#[45]⟩, .slice (some ⟨w3.heap.size, 0, none⟩) 2 2] 31)) := (Ext.refl _).alloc _
  have s5 : (w4.alloc (.cells #[.int .i64 6, .int .i64 0, .string ⟨#[45]⟩, .slice (some ⟨w3.heap.size, 0, none⟩) 2 2] 31)).heap.size = w3.heap.size + 1 + 1 := by simp [s4]
  generalize w4.alloc (.cells #[.int .i64 6, .int .i64 0, .string ⟨#[45]⟩, .slice (some ⟨w3.heap.size, 0, none⟩) 2 2] 31) = w5 at *
  have hx6 : Ext w5 (w5.alloc (.cells #[.int .i64 1, .int .i64 1, .string ⟨#[]⟩, .slice none 0 0, .int .i64 6, .int .i64 0, .string ⟨#[45]⟩, .slice (some ⟨w3.heap.size, 0, none⟩) 2 2] 31)) := (Ext.refl _).alloc _
  have s6 : (w5.alloc (.cells #[.int .i64 1, .int .i64 1, .string ⟨#[]⟩, .slice none 0 0, .int .i64 6, .int .i64 0, .string ⟨#[45]⟩, .slice (some ⟨w3.heap.size, 0, none⟩) 2 2] 31)).heap.size = w3.heap.size + 1 + 1 + 1 := by simp [s5]
  have l6 := SL.new (cf := ndcf) (sz := 4) ndcf_len w5 [⟨1, 1, ⟨#[]⟩, none, 0, 0⟩, ⟨6, 0, ⟨#[45]⟩, some ⟨w3.heap.size, 0, none⟩, 2, 2⟩] #[.int .i64 1, .int .i64 1, .string ⟨#[]⟩, .slice none 0 0, .int .i64 6, .int .i64 0, .string ⟨#[45]⟩, .slice (some ⟨w3.heap.size, 0, none⟩) 2 2] rfl 31
  rw [s5] at l6
  have r4' := (r4.ext hx5).ext hx6
  have r6 : Rep (w5.alloc (.cells #[.int .i64 1, .int .i64 1, .string ⟨#[]⟩, .slice none 0 0, .int .i64 6, .int .i64 0, .string ⟨#[45]⟩, .slice (some ⟨w3.heap.size, 0, none⟩) 2 2] 31)) (fun _ => True) ⟨6, 0, ⟨#[45]⟩, some ⟨w3.heap.size + 1 + 1, 0, none⟩, 2, 2⟩ exRight :=
    .mk 6 0 wMinus _ 2 [⟨1, 1, ⟨#[]⟩, none, 0, 0⟩, ⟨6, 0, ⟨#[45]⟩, some ⟨w3.heap.size, 0, none⟩, 2, 2⟩] _ (fun x hx => ⟨trivial, by injection hx with hx; subst hx; rw [s6]; simp⟩) l6 rfl (fun i h t h1 h2 => by
      have hi : i < 2 := (List.getElem?_eq_some_iff.1 h1).1
      obtain rfl | rfl : i = 0 ∨ i = 1 := by omega
      · simp only [List.getElem?_cons_zero, Option.some.injEq] at h1 h2
        subst h1 h2
        exact Rep.leaf _ _ 1 1 []
      · simp only [List.getElem?_cons_succ, List.getElem?_cons_zero, Option.some.injEq] at h1 h2
        subst h1 h2
        exact r4')
  generalize w5.alloc (.cells #[.int .i64 1, .int .i64 1, .string ⟨#[]⟩, .slice none 0 0, .int .i64 6, .int .i64 0, .string ⟨#[45]⟩, .slice (some ⟨w3.heap.size, 0, none⟩) 2 2] 31) = w6 at *
  have hx7 : Ext w6 (w6.alloc (.cells #[.int .i64 6, .int .i64 0, .string ⟨#[45]⟩, .slice (some ⟨w3.heap.size + 1 + 1, 0, none⟩) 2 2] 31)) := (Ext.refl _).alloc _
  have n7 : NX (w6.alloc (.cells #[.int .i64 6, .int .i64 0, .string ⟨#[45]⟩, .slice (some ⟨w3.heap.size + 1 + 1, 0, none⟩) 2 2] 31)) w6.heap.size 6 0 ⟨#[45]⟩ (.slice (some ⟨w3.heap.size + 1 + 1, 0, none⟩) 2 2) := heap_alloc_new _ _
  rw [s6] at n7
  have r7 := r6.ext hx7
  have HX7 := Lib.hid (((((HX2.out.trans hx3).trans hx4).trans hx5).trans hx6).trans hx7)
  have HX17 := Lib.hid (((((HX12.out.trans hx3).trans hx4).trans hx5).trans hx6).trans hx7)
  generalize w6.alloc (.cells #[.int .i64 6, .int .i64 0, .string ⟨#[45]⟩, .slice (some ⟨w3.heap.size + 1 + 1, 0, none⟩) 2 2] 31) = w7 at *
  have HR7 := Lib.hid r7
  have HN7 := Lib.hid n7
  have HRW7 := Lib.hid (HRW.out.ext HX17.out)
  clear hx3 hx4 hx5 hx6 hx7 l4 l6 r4 r4' r6 r7 n7 s3 s4 s5 s6 HRW HX17 HX12
  obtain ⟨SP, hSP⟩ : ∃ S, S = bs exPr := ⟨_, rfl⟩
  have HPR := Lib.hid (show Calls Tryz.prog 23 #[.slice A1 1 c1] w7 (fun e X' => e = .returned (.string SP) ∧ Ext w7 X') from by
    have h9 := pprint_any _ A1 c1 [exRule] w7 (by decide) (fun r hr => by
      obtain rfl : r = exRule := by simpa using hr
      exact ex8) HRW7.out (HE.out.2.ext HX7.out)
    rw [ex7] at h9
    unfold StrPost at h9
    rw [hSP]; exact h9)
  have t9 : (SP.toList == exPr) = true := by rw [hSP, bs_list]; exact beq_self_eq_true _
  unfold exPr at t9
  clear hSP
  go_upto_region 10 with (first | (go_at_call 23; refine (HPR.out).mono ?_; rintro e3 w8 ⟨rfl, hx8⟩))
  clear t9 HPR
  have HX8 := Lib.hid (HX7.out.trans hx8)
  have HR8 := Lib.hid (HR7.out.ext hx8)
  have HN8 := Lib.hid (HN7.out.mv (b := w8.heap.size + 1 + w3.heap.size + 5) (Mv.of_ext hx8) (by omega))
  obtain ⟨g, off, d, r, hA, hg, hr, hm, hrp, p0, p1, p2, p3, p4, p5, p6, p7, p8, p9, p10, p11, p12⟩ := (HRW7.out.ext hx8).at_ (i := 0) (by decide)
  subst hA
  obtain rfl : r = exRule := by simpa using hm
  clear hr hm hx8 p0 p8 p9 p10 p11 p12 HRW7 HX7 HR7 HN7
  have hfr := hrp.from_
  have hon := hrp.on_
  have hdk := rep_kind hrp.due
  have HRI := Lib.hid hrp.if_
  clear hrp
  obtain ⟨dn, df, don, di, dd, du, de⟩ := d
  simp only [Nat.zero_mul, Nat.add_zero] at p1 p2 p3 p4 p5 p6 p7
  simp only at hfr hon hdk HRI
  rw [hfr] at p1
  rw [hdk] at p7
  have hb5 : (don.toList == [99, 108, 97, 105, 109]) = true := by rw [hon, bs_list]; exact beq_self_eq_true _
  clear hfr hon hdk
  have HQ := Lib.hid (fun X (hX : Ext w8 X) => (show X.cell? ⟨g, off + 1, none⟩ = some (.int .i64 739616) ∧ X.cell? ⟨g, off + 2, none⟩ = some (.string don) ∧ X.cell? ⟨g, off + 3, none⟩ = some (.int .i64 di.k) ∧ X.cell? ⟨g, off + 4, none⟩ = some (.int .i64 di.n) ∧ X.cell? ⟨g, off + 5, none⟩ = some (.string di.s) ∧ X.cell? ⟨g, off + 6, none⟩ = some (.slice di.A di.m di.c) ∧ X.cell? ⟨g, off + 7, none⟩ = some (.int .i64 7) from ⟨cells_ext p1 hX, cells_ext p2 hX, cells_ext p3 hX, cells_ext p4 hX, cells_ext p5 hX, cells_ext p6 hX, cells_ext p7 hX⟩))
  clear p1 p2 p3 p4 p5 p6 p7
  obtain ⟨p1, p2, p3, p4, p5, p6, p7⟩ := HQ.out w8 (Ext.refl _)
  have HSA := Lib.hid (fun X (hX : Ext w8 X) => (show Calls Tryz.prog 20 #[.agg #[.int .i64 di.k, .int .i64 di.n, .string di.s, .slice di.A di.m di.c], .agg #[.int .i64 2, .int .i64 1, .string ⟨#[]⟩, .slice none 0 0]] X (BQ2 true X) from
    same_any 1 trTrue trTrue di ⟨2, 1, ⟨#[]⟩, none, 0, 0⟩ _ (fun _ => True) X (by decide) (by decide) (by decide) (HRI.out.ext hX) (Rep.leaf _ _ 2 1 [])))
  have hcur : Ext w8 w8.drew := (Ext.refl _).drew
  go_region_held3 (fun X => X.cell? ⟨g, off + 1, none⟩ = some (.int .i64 739616) ∧ X.cell? ⟨g, off + 2, none⟩ = some (.string don) ∧ X.cell? ⟨g, off + 3, none⟩ = some (.int .i64 di.k) ∧ X.cell? ⟨g, off + 4, none⟩ = some (.int .i64 di.n) ∧ X.cell? ⟨g, off + 5, none⟩ = some (.string di.s) ∧ X.cell? ⟨g, off + 6, none⟩ = some (.slice di.A di.m di.c) ∧ X.cell? ⟨g, off + 7, none⟩ = some (.int .i64 7)) (first | exact HQ.out _ hcur | go_keep)
    (first
      | (go_at_call 31; refine (true_any _).mono ?_; rintro e5 wn ⟨rfl, hx⟩; have hcur := hcur.trans hx; clear hx)
      | (go_at_call 20; refine (HSA.out _ hcur).mono ?_; rintro e6 wm ⟨rfl, hx⟩; have hcur := hcur.trans hx; clear hx))
  have HXM := Lib.hid (HX8.out.trans hcur)
  have HRM := Lib.hid (HR8.out.ext hcur)
  obtain ⟨_, k0, k1, k2, k3, _, _, _, _⟩ := (HN8.out.mv (b := w8.heap.size + 1 + w3.heap.size + 5) (Mv.of_ext hcur) (by omega)).nb
  clear p1 p2 p3 p4 p5 p6 p7 hb5 HQ HSA HRI HN8 HR8 HX8 hcur
  obtain ⟨SR, hSR⟩ : ∃ S, S = bs (showT exRight) := ⟨_, rfl⟩
  have HSH := Lib.hid (show Calls Tryz.prog 26 #[.agg #[.int .i64 6, .int .i64 0, .string ⟨#[45]⟩, .slice (some ⟨w3.heap.size + 1 + 1, 0, none⟩) 2 2]] wm (fun e X' => e = .returned (.string SR) ∧ Ext wm X') from by
    have h9 := pshow_any 100 exRight ⟨6, 0, ⟨#[45]⟩, some ⟨w3.heap.size + 1 + 1, 0, none⟩, 2, 2⟩ _ wm (by decide) ex9 (by decide) HRM.out (HE.out.2.ext HXM.out)
    unfold StrPost at h9
    rw [hSR]; exact h9)
  have hb6 : (SR.toList == [49, 32, 45, 32, 40, 50, 32, 45, 32, 51, 41]) = true := by rw [hSR, bs_list, ex6]; exact beq_self_eq_true _
  clear hSR
  have HF1 := Lib.hid (fun X (hX : Ext w X) => (show Calls Tryz.prog 38 #[.string ⟨#[51, 32, 100, 97, 121, 115]⟩, .int .i64 2, .int .i64 20] X (BQ2 true X) from fails_any ⟨#[51, 32, 100, 97, 121, 115]⟩ 2 20 ex3 (by decide) X (HE.out.ext hX)))
  have HF2 := Lib.hid (fun X (hX : Ext w X) => (show Calls Tryz.prog 38 #[.string ⟨#[110, 101, 120, 116, 40, 100, 97, 121, 44, 32, 100, 97, 121, 41]⟩, .int .i64 8, .int .i64 20] X (BQ2 true X) from fails_any ⟨#[110, 101, 120, 116, 40, 100, 97, 121, 44, 32, 100, 97, 121, 41]⟩ 8 20 ex4 (by decide) X (HE.out.ext hX)))
  have HF3 := Lib.hid (fun X (hX : Ext w X) => (show Calls Tryz.prog 38 #[.string ⟨#[45, 45, 45, 45, 45, 45, 45, 45, 45, 45, 45, 45, 45, 49]⟩, .int .i64 12, .int .i64 2] X (BQ2 true X) from fails_any ⟨#[45, 45, 45, 45, 45, 45, 45, 45, 45, 45, 45, 45, 45, 49]⟩ 12 2 ex5 (by decide) X (HE.out.ext hX)))
  go_wp2_with (first
    | (go_at_call 26; refine (HSH.out).mono ?_; rintro e7 w9 ⟨rfl, hx9⟩; have HX9 := Lib.hid (HXM.out.trans hx9); clear hx9))
  refine (HF1.out _ HX9.out).mono ?_
  rintro e8 w10 ⟨rfl, hx10⟩
  have HX10 := Lib.hid (HX9.out.trans hx10)
  clear hx10
  go_wp2_with fail
  refine (HF2.out _ HX10.out).mono ?_
  rintro e9 w11 ⟨rfl, hx11⟩
  have HX11 := Lib.hid (HX10.out.trans hx11)
  clear hx11
  go_wp2_with fail
  refine (HF3.out _ HX11.out).mono ?_
  rintro e10 w12 ⟨rfl, hx12⟩
  have HX12 := Lib.hid (HX11.out.trans hx12)
  clear hx12
  go_wp2_with fail
  go_ret
  exact ⟨rfl, HX12.out⟩
end Go.Proofs.YtnpenepdechkjaaGreatDoor
