/- The contract of cite.Scan. -/
import Derived.Test.YtbfogchdeijedaaDoorCat
namespace Go.Proofs.YtbfogchdeijedaaDoor
open Go Go.RowKit

/-- A word of a text as plain data. -/
structure Wd where
  s : ByteArray
  key : ByteArray
  tb : Int
  nt : Int
def wcf (w : Wd) : List Value := [.string w.s, .string w.key, .int .i64 w.tb, .int .i64 w.nt]
def ccf (c : Ct) : List Value := [.int .i64 c.br, .int .i64 c.nu, .int .i64 c.su, .int .i64 c.li]
theorem wcf_len (a : Wd) : (wcf a).length = 4 := rfl
theorem ccf_len (a : Ct) : (ccf a).length = 4 := rfl
theorem ccf_one (a : Ct) : ∀ u ∈ ccf a, u.oneCell' = true := fun u hu => by
  simp only [ccf, List.mem_cons, List.not_mem_nil, or_false] at hu
  rcases hu with rfl | rfl | rfl | rfl <;> rfl
/-- The paragraphs ps hold the words ll. -/
def TX (W : World) (ps : List Sl) (ll : List (List Wd)) : Prop := ps.length = ll.length ∧ ∀ (i : Nat) (s : Sl) (l : List Wd), ps[i]? = some s → ll[i]? = some l → SL wcf 4 W s.A s.n l ∧ l.length ≤ 100000 ∧ ∀ w ∈ l, w.s.size ≤ 281474976710656
theorem TX.ext {W W' : World} {ps : List Sl} {ll : List (List Wd)} (h : TX W ps ll) (hx : Ext W W') : TX W' ps ll :=
  ⟨h.1, fun i s l h1 h2 => ⟨(h.2 i s l h1 h2).1.ext hx, (h.2 i s l h1 h2).2⟩⟩
/-- The citations of some words. -/
def scanW (l : List Wd) : List Ct := l.filterMap fun w => if (parseP w.s.data.toList).2 = 0 then some (parseP w.s.data.toList).1 else none
def scanP (ll : List (List Wd)) : List Ct := ll.flatMap scanW
theorem scanW_len (l : List Wd) : (scanW l).length ≤ l.length := List.length_filterMap_le _ _
theorem scanW_step (l : List Wd) (k : Nat) (w : Wd) (h : l[k]? = some w) : scanW (l.take (k + 1)) = scanW (l.take k) ++ (if (parseP w.s.data.toList).2 = 0 then [(parseP w.s.data.toList).1] else []) := by
  have e : l.take (k + 1) = l.take k ++ [w] := by rw [List.take_add_one, h]; rfl
  rw [e]; unfold scanW; rw [List.filterMap_append]
  congr 1
  simp only [List.filterMap_cons, List.filterMap_nil]
  split <;> simp_all
theorem scanP_step (ll : List (List Wd)) (i : Nat) (l : List Wd) (h : ll[i]? = some l) : scanP (ll.take (i + 1)) = scanP (ll.take i) ++ scanW l := by
  have e : ll.take (i + 1) = ll.take i ++ [l] := by rw [List.take_add_one, h]; rfl
  rw [e]; unfold scanP; rw [List.flatMap_append]; simp
theorem SL.at {α : Type} {cf : α → List Value} {sz : Nat} {W : World} {A : Option Addr} {m : Nat} {l : List α} (h : SL cf sz W A m l) {k : Nat} (hk : k < m) :
    ∃ b off a, A = some ⟨b, off, none⟩ ∧ b < W.heap.size ∧ l[k]? = some a ∧ a ∈ l ∧ ∀ j u, (cf a)[j]? = some u → W.cell? ⟨b, off + k * sz + j, none⟩ = some u := by
  obtain ⟨b, off, rfl, hb, hc⟩ := h.2 (by omega)
  have hl : k < l.length := by rw [← h.1]; exact hk
  exact ⟨b, off, l[k], rfl, hb, List.getElem?_eq_getElem hl, List.getElem_mem hl, fun j u hu => hc k _ (List.getElem?_eq_getElem hl) j u hu⟩
theorem ap47 {w : World} {base : Nat} {v : Value} {l : List Ct} (h : OL ccf 4 w base 25 v l) {A : Option Addr} {m : Nat} {l' : List Ct} (hs : SL ccf 4 w A m l') (c : Nat) (hm : l.length + m ≤ 100000000) (hbase : base ≤ w.heap.size) :
    ∃ A' c' w', (Builtin.append_ #[47, 47] 47 #[v, .slice A m c]).run Tryd.prog w = .ok (.slice A' (l.length + m) c') w' ∧ OL ccf 4 w' base 25 (.slice A' (l.length + m) c') (l ++ l') ∧ (∀ B, B ≤ base → Below B w w') ∧
      (∀ k, k < w.heap.size → (∀ a, v ≠ .slice (some ⟨k, 0, none⟩) l.length a) → w'.heap[k]? = w.heap[k]?) :=
  OL.append ccf_len ccf_one (by omega) Tryd.underlying47 info25 rfl (by omega) h hs c hm hbase
def ScanPost (W : World) (l : List Ct) (e : Ending) (W' : World) : Prop := ∃ A c, e = .returned (.slice A l.length c) ∧ SL ccf 4 W' A l.length l ∧ Ext W W'
def OutRel (W : World) (ll : List (List Wd)) (n : Nat) (s3 s17 : Value) (w' : World) : Prop :=
  ∃ i A c, i ≤ n ∧ s17 = .int .i64 (i : Nat) ∧ s3 = .slice A (scanP (ll.take i)).length c ∧ OL ccf 4 w' W.heap.size 25 s3 (scanP (ll.take i)) ∧ Ext W w'
def InRel (W : World) (out : List Ct) (l : List Wd) (n : Nat) (s3 s23 : Value) (w' : World) : Prop :=
  ∃ k A c, k ≤ n ∧ s23 = .int .i64 (k : Nat) ∧ s3 = .slice A (out.length + (scanW (l.take k)).length) c ∧ OL ccf 4 w' W.heap.size 25 s3 (out ++ scanW (l.take k)) ∧ Ext W w'
def toM (n : Nat) (v : Value) : Nat := match v with | .int _ z => n - z.toNat | _ => 0
theorem app47_one (X : World) {base : Nat} {v : Value} {l : List Ct} (ho : OL ccf 4 X base 25 v l) (c : Ct) (b : Nat) (hb : b = X.heap.size) (hm : l.length ≤ 10000000) (hbase : base ≤ X.heap.size) :
    ∃ A' c' w', (Builtin.append_ #[47, 47] 47 #[v, .slice (some ⟨b, 0, none⟩) 1 1]).run Tryd.prog (X.alloc (.cells #[.int .i64 c.br, .int .i64 c.nu, .int .i64 c.su, .int .i64 c.li] 25)) = .ok (.slice A' (l.length + 1) c') w' ∧ OL ccf 4 w' base 25 (.slice A' (l.length + 1) c') (l ++ [c]) ∧ Below base X w' := by
  subst hb
  obtain ⟨A', c', w', h1, h2, h3, _⟩ := ap47 (ho.ext ((Ext.refl X).alloc _)) (SL.one (cf := ccf) (sz := 4) X c #[.int .i64 c.br, .int .i64 c.nu, .int .i64 c.su, .int .i64 c.li] rfl 25) 1 (by omega) (by simp; omega)
  exact ⟨A', c', w', h1, h2, Below.trans (Below.mono ((Ext.refl X).alloc _) hbase) (h3 base (Nat.le_refl _))⟩
set_option maxHeartbeats 4000000 in
set_option maxRecDepth 100000 in
theorem scan_any (W : World) (A1 A2 : Option Addr) (c1 c2 : Nat) (l1 l2 : List Sl) (ll : List (List Wd)) (h1 : SL slc 1 W A1 l1.length l1) (h2 : SL slc 1 W A2 l2.length l2) (hl1 : l1.length ≤ 10000) (hl2 : l2.length ≤ 10000)
    (hT : TX W (l1 ++ l2) ll) (hout : (scanP ll).length ≤ 1000000) (hE : Env W) :
    Calls Tryd.prog 16 #[.agg #[.slice A1 l1.length c1, .slice A2 l2.length c2]] W (ScanPost W (scanP ll)) := by
  have HT := Lib.hid hT
  have HE := Lib.hid hE
  have HO := Lib.hid hout
  have H1 := Lib.hid h1
  have H2 := Lib.hid h2
  have HL1 := Lib.hid hl1
  have HL2 := Lib.hid hl2
  clear h1 h2 hl1 hl2 hT hout hE
  go_enter Tryd.func16, Tryd.ntmps16
  go_wp2_with (first | (go_at_call 37; refine (concat_any _ _ A1 A2 c1 c2 l1 l2 (H1.out.ext (by repeat (first | exact Ext.refl _ | refine Ext.alloc ?_ _))) (H2.out.ext (by repeat (first | exact Ext.refl _ | refine Ext.alloc ?_ _))) HL1.out HL2.out ?_ ?_ ?_).mono ?_; (go_simp); (go_simp); (go_simp); rintro e w1 ⟨A, c, rfl, hs, hx⟩))
  have HS := Lib.hid hs
  have hxw : Ext W w1 := by
    refine Ext.trans ?_ hx
    repeat (first | exact Ext.refl _ | refine Ext.alloc ?_ _)
  have HXW := Lib.hid hxw
  clear hs hx
  have HTX := Lib.hid (HT.out.ext hxw)
  clear hxw
  go_loopw [3, 17] (fun s3 s17 w' => OutRel w1 ll (l1.length + l2.length) s3 s17 w') (fun _ s17 _ => toM (l1.length + l2.length) s17)
  case atStart => exact ⟨0, none, 0, by omega, rfl, rfl, OL.nil _ _ _, Ext.refl _⟩
  case round =>
    obtain ⟨i, A3, c3, hi, rfl, rfl, ho, hxr⟩ := hrel
    have HOL := Lib.hid ho
    have HXR := Lib.hid hxr
    clear ho hxr
    by_cases hin : i < l1.length + l2.length
    · obtain ⟨b, off, s, rfl, hb, hps, _, hcs⟩ := SL.at (HS.out.ext HXR.out) (k := i) (by simpa using hin)
      obtain ⟨l, hll⟩ : ∃ l, ll[i]? = some l := ⟨_, List.getElem?_eq_getElem (by have := HT.out.1; simp at this; omega)⟩
      obtain ⟨hSw, hlen, hsz⟩ := HTX.out.2 i s l hps hll
      have hc0 := hcs 0 s.val rfl
      rw [Nat.mul_one, Nat.add_zero] at hc0
      obtain ⟨sA, sn, sc⟩ := s
      have HSW := Lib.hid hSw
      have HSZ := Lib.hid hsz
      have HST := Lib.hid (scanP_step ll i l hll)
      have hsn : sn = l.length := hSw.1
      have HSN := Lib.hid hsn
      have hsn2 : sn ≤ 100000 := by omega
      simp only [Sl.val] at hc0
      have hsum : (scanP (ll.take i)).length ≤ 1000000 := by
        refine Nat.le_trans ?_ HO.out
        have e : scanP ll = scanP (ll.take i) ++ scanP (ll.drop i) := by unfold scanP; rw [← List.flatMap_append, List.take_append_drop]
        rw [e, List.length_append]; omega
      have hi3 : (i : Int) ≤ 20000 := by have := HL1.out; have := HL2.out; omega
      generalize scanP (ll.take i) = out at *
      clear hcs hps hll hSw hlen hsz hsn
      have hi2 : (i : Int) < (l1.length : Int) + (l2.length : Int) := by omega
      go_wp2_with fail
      go_loopw [3, 23] (fun s3 s23 w' => InRel w1 out l sn s3 s23 w') (fun _ s23 _ => toM sn s23)
      case atStart => exact ⟨0, A3, c3, by omega, rfl, by simp [scanW], by simpa [scanW] using HOL.out, HXR.out⟩
      case round =>
        obtain ⟨k, A4, c4, hk, rfl, rfl, ho4, hxr4⟩ := hrel
        have HOL4 := Lib.hid ho4
        have HXR4 := Lib.hid hxr4
        clear ho4 hxr4
        by_cases hkn : k < sn
        · obtain ⟨b2, off2, wd, rfl, hb2, hwk, hwm, hwc⟩ := SL.at (HSW.out.ext (HXR4.out)) hkn
          have hwsz := HSZ.out wd hwm
          have d0 := hwc 0 (.string wd.s) rfl
          have d1 := hwc 1 (.string wd.key) rfl
          have d2 := hwc 2 (.int .i64 wd.tb) rfl
          have d3 := hwc 3 (.int .i64 wd.nt) rfl
          rw [Nat.add_zero] at d0
          have hstep := scanW_step l k wd hwk
          have hEnv : ∀ X, Ext wr X → Env X := fun X hX => HE.out.ext ((HXW.out.trans HXR4.out).trans hX)
          have hk2 : (k : Int) < (sn : Int) := by omega
          have hk3 : (k : Int) ≤ 100000 := by omega
          have hlk : (scanW (l.take k)).length ≤ 100000 := Nat.le_trans (scanW_len _) (by rw [List.length_take]; omega)
          rcases parse_cases wd.s.data.toList with (hp | hp) | ⟨c, hp, hcb⟩
          · have HP := Lib.hid (show ∀ X, Ext wr X → Calls Tryd.prog 12 #[.string wd.s] X (fun e X' => e = .returned (.tuple #[.agg #[.int .i64 0, .int .i64 0, .int .i64 0, .int .i64 0], .int .i64 7]) ∧ Ext X X') from fun X hX => by
              have := cparse_any wd.s X hwsz (hEnv X hX); rw [hp] at this; exact this)
            have HSTEP := Lib.hid (show scanW (l.take (k + 1)) = scanW (l.take k) by rw [hstep, hp]; simp)
            clear hstep hp hEnv hwc hwm hwk hwsz
            go_wp2_with (first | (go_at_call 12; refine (HP.out _ ?_).mono ?_; exact (Ext.refl _).alloc _; rintro e w4 ⟨rfl, hx4⟩))
            exact ⟨⟨k + 1, A4, c4, by omega, rfl, by rw [HSTEP.out], by rw [HSTEP.out]; exact HOL4.out.ext ((((Ext.refl _).alloc _).trans hx4).alloc _), HXR4.out.trans ((((Ext.refl _).alloc _).trans hx4).alloc _)⟩, by simp [toM]; omega⟩
          · have HP := Lib.hid (show ∀ X, Ext wr X → Calls Tryd.prog 12 #[.string wd.s] X (fun e X' => e = .returned (.tuple #[.agg #[.int .i64 0, .int .i64 0, .int .i64 0, .int .i64 0], .int .i64 5]) ∧ Ext X X') from fun X hX => by
              have := cparse_any wd.s X hwsz (hEnv X hX); rw [hp] at this; exact this)
            have HSTEP := Lib.hid (show scanW (l.take (k + 1)) = scanW (l.take k) by rw [hstep, hp]; simp)
            clear hstep hp hEnv hwc hwm hwk hwsz
            go_wp2_with (first | (go_at_call 12; refine (HP.out _ ?_).mono ?_; exact (Ext.refl _).alloc _; rintro e w4 ⟨rfl, hx4⟩))
            exact ⟨⟨k + 1, A4, c4, by omega, rfl, by rw [HSTEP.out], by rw [HSTEP.out]; exact HOL4.out.ext ((((Ext.refl _).alloc _).trans hx4).alloc _), HXR4.out.trans ((((Ext.refl _).alloc _).trans hx4).alloc _)⟩, by simp [toM]; omega⟩
          · have HP := Lib.hid (show ∀ X, Ext wr X → Calls Tryd.prog 12 #[.string wd.s] X (fun e X' => e = .returned (.tuple #[.agg #[.int .i64 c.br, .int .i64 c.nu, .int .i64 c.su, .int .i64 c.li], .int .i64 0]) ∧ Ext X X') from fun X hX => by
              have := cparse_any wd.s X hwsz (hEnv X hX); rw [hp] at this; exact this)
            have HSTEP := Lib.hid (show scanW (l.take (k + 1)) = scanW (l.take k) ++ [c] by rw [hstep, hp]; simp)
            have hli := (citB_cases hcb).2.2.1
            have hli2 : (c.li == 0) = false := by simpa using (show ¬ c.li = 0 by omega)
            clear hstep hp hEnv hwc hwm hwk hwsz hcb
            go_upto_region 10 with (first | (go_at_call 12; refine (HP.out _ ?_).mono ?_; exact (Ext.refl _).alloc _; rintro e w4 ⟨rfl, hx4⟩))
            have hle4 : w1.heap.size ≤ w4.heap.size := Nat.le_trans HXR4.out.lt (Nat.le_trans (((Ext.refl _).alloc _).trans hx4).lt (Nat.le_refl _))
            obtain ⟨A5, c5, w5, hrun, ho5, hb5⟩ := app47_one (w4.alloc (.cells #[.int .i64 c.br, .int .i64 c.nu, .int .i64 c.su, .int .i64 c.li] 25)) (HOL4.out.ext ((((Ext.refl _).alloc _).trans hx4).alloc _)) c (w4.heap.size + 1) (by simp) (by rw [List.length_append]; omega) (by simp; omega)
            rw [List.length_append] at hrun ho5
            have HO5 := Lib.hid ho5
            have HB5 := Lib.hid hb5
            clear ho5 hb5
            go_wp2_with (first | (at_builtin; refine wpList_append_run (s := .tmp 40) (x := .tmp 42) hrun rfl rfl rfl rfl rfl ?_))
            refine ⟨⟨k + 1, A5, c5, by omega, rfl, by rw [HSTEP.out, List.length_append, List.length_singleton, Nat.add_assoc], by rw [HSTEP.out, ← List.append_assoc]; exact HO5.out, ?_⟩, by simp [toM]; omega⟩
            exact Below.trans (HXR4.out.trans ((((Ext.refl _).alloc _).trans hx4).alloc _)) HB5.out
        · have hni : ¬ ((k : Int) < (sn : Int)) := by omega
          go_wp2_with fail
          have hkl : l.take k = l := List.take_of_length_le (by have := HSN.out; omega)
          refine ⟨⟨i + 1, A4, c4, by omega, rfl, by rw [HST.out, hkl, List.length_append], by rw [HST.out]; have := HOL4.out; rw [hkl] at this; rw [hkl]; exact this, HXR4.out⟩, by simp [toM]; omega⟩
    · have hni : ¬ ((i : Int) < (l1.length : Int) + (l2.length : Int)) := by omega
      go_wp2_with fail
      go_ret
      have hall : ll.take i = ll := List.take_of_length_le (by have := HT.out.1; simp at this; omega)
      have hol := HOL.out
      rw [hall] at hol ⊢
      obtain ⟨A9, c9, e9, _, hs9⟩ := OL.form ccf_len hol
      injection e9 with e1 e2 e3
      subst e1 e3
      exact ⟨A3, c3, rfl, hs9, HXW.out.trans HXR.out⟩
end Go.Proofs.YtbfogchdeijedaaDoor
