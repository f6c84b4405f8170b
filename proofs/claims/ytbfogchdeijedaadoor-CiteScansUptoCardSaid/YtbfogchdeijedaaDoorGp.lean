/- The contracts of Pick, part. -/
import Derived.Test.YtbfogchdeijedaaDoorGn
namespace Go.Proofs.YtbfogchdeijedaaDoor
open Go Go.RowKit

theorem around_nat (n : Int) (m : Nat) (h3 : 1 ≤ m) : ∃ k : Nat, arnd n m = k ∧ k < m := by
  obtain ⟨a, b⟩ := arnd_in n m (by omega)
  exact ⟨(arnd n m).toNat, by omega, by omega⟩
def icf (n : Int) : List Value := [.int .i64 n]
/-- What Pick answers. -/
def pkI (l : List Int) (i m : Nat) : Int := match l[i]? with | some n => arnd n m | none => 0
theorem pk_nat (l : List Int) (i m : Nat) (h : 1 ≤ m) : ∃ k : Nat, pkI l i m = k ∧ k < m := by
  unfold pkI
  cases l[i]? with
  | none => exact ⟨0, rfl, by omega⟩
  | some n => exact around_nat n m h
set_option maxRecDepth 100000 in
theorem pick_any (A : Option Addr) (c : Nat) (l : List Int) (i m : Nat) (w : World) (hm : 1 ≤ m) (hm2 : m ≤ 1000000000) (hb : ∀ n ∈ l, -9223372036854775808 ≤ n ∧ n ≤ 9223372036854775807) (h : SL icf 1 w A l.length l) :
    Calls Tryd.prog 33 #[.slice A l.length c, .int .i64 i, .int .i64 m] w fun e w' => e = .returned (.int .i64 (pkI l i m)) ∧ w = w' := by
  by_cases hil : i < l.length
  · obtain ⟨b, off, n, rfl, hbb, hn, hmem, hc⟩ := h.at hil
    have HP := Lib.hid (show pkI l i m = arnd n m by unfold pkI; rw [hn])
    have hc0 := hc 0 (.int .i64 n) rfl
    rw [Nat.mul_one, Nat.add_zero] at hc0
    have HA := Lib.hid (fun X => around_fn n m X (hb n hmem).1 (hb n hmem).2 (by omega) (by omega))
    have hni : ¬ (l.length : Int) ≤ (i : Int) := by omega
    clear hc hn h
    go_enter Tryd.func33, Tryd.ntmps33
    go_wp2_with (first | (go_at_call 8; refine (HA.out _).mono ?_; rintro e w1 ⟨rfl, rfl⟩))
    go_ret
    exact ⟨ret_int (by rw [HP.out]), rfl⟩
  · have HP := Lib.hid (show pkI l i m = 0 by unfold pkI; rw [List.getElem?_eq_none (by omega)])
    have hni : (l.length : Int) ≤ (i : Int) := by omega
    clear h
    go_enter Tryd.func33, Tryd.ntmps33
    go_wp2
    go_ret
    exact ⟨ret_int (by rw [HP.out]), rfl⟩
theorem wcf_one (a : Wd) : ∀ u ∈ wcf a, u.oneCell' = true := fun u hu => by
  simp only [wcf, List.mem_cons, List.not_mem_nil, or_false] at hu
  rcases hu with rfl | rfl | rfl | rfl <;> rfl
theorem info46 : (Tryd.prog.info? 46).map (fun i => (i.zero, i.size, i.bytes)) = some (some (.agg #[.string ⟨#[]⟩, .string ⟨#[]⟩, .int .i64 0, .int .i64 0]), 4, 48) := by kernel_rfl
theorem ap44_one (X : World) {base : Nat} {v : Value} {l : List Wd} (ho : OL wcf 4 X base 46 v l) (a : Wd) (b : Nat) (hb : b = X.heap.size) (hm : l.length ≤ 10000000) (hbase : base ≤ X.heap.size) :
    ∃ A' c' w', (Builtin.append_ #[44, 44] 44 #[v, .slice (some ⟨b, 0, none⟩) 1 1]).run Tryd.prog (X.alloc (.cells #[.string a.s, .string a.key, .int .i64 a.tb, .int .i64 a.nt] 46)) = .ok (.slice A' (l.length + 1) c') w' ∧
      OL wcf 4 w' base 46 (.slice A' (l.length + 1) c') (l ++ [a]) ∧ Below base X w' := by
  subst hb
  obtain ⟨A', c', w', h1, h2, h3, _⟩ := OL.append (cf := wcf) (sz := 4) (l' := [a]) wcf_len wcf_one (by omega) Tryd.underlying44 info46 rfl (by omega) (ho.ext ((Ext.refl X).alloc _)) (SL.one (cf := wcf) (sz := 4) X a #[.string a.s, .string a.key, .int .i64 a.tb, .int .i64 a.nt] rfl 46) 1 (by omega) (by simp; omega)
  exact ⟨A', c', w', h1, h2, Below.trans (Below.mono ((Ext.refl X).alloc _) hbase) (h3 base (Nat.le_refl _))⟩
def PaRel (W : World) (s5 s6 s7 : Value) (w' : World) : Prop := ∃ (i : Nat) (x : Int) (A : Option Addr) (c : Nat) (l : List Wd), i ≤ 1000 ∧ s7 = .int .i64 i ∧ s5 = .int .u32 x ∧ 0 ≤ x ∧ x ≤ 4294967295 ∧ s6 = .slice A l.length c ∧ OL wcf 4 w' W.heap.size 46 s6 l ∧ l.length = i ∧ (∀ v ∈ l, v.s.size ≤ 100) ∧ Ext W w'
/-- A paragraph in a block of its own. -/
def GpPost (W : World) (e : Ending) (W' : World) : Prop := ∃ (A : Option Addr) (c : Nat) (l : List Wd), e = .returned (.slice A l.length c) ∧ OL wcf 4 W' W.heap.size 46 (.slice A l.length c) l ∧ 1 ≤ l.length ∧ l.length ≤ 1000 ∧ (∀ v ∈ l, v.s.size ≤ 100) ∧ Ext W W'
theorem bits_in (op : BinOp) (x y : Int) : 0 ≤ bits op .u32 x y ∧ bits op .u32 x y ≤ 4294967295 := by
  unfold bits
  simp only
  rw [IntKind.wrap_u32]
  constructor
  · exact Int.emod_nonneg _ (by decide)
  · exact Int.le_of_lt_add_one (Int.emod_lt_of_pos _ (by decide))
set_option maxHeartbeats 4000000 in
set_option maxRecDepth 100000 in
theorem gpart_any (n m : Nat) (w : World) (hn : n ≤ 1000000) (hm : 1 ≤ m) (hm2 : m ≤ 100) : Calls Tryd.prog 34 #[.int .i64 n, .int .i64 m] w (GpPost w) := by
  have HO := Lib.hid (fun (k : Nat) (hk : k ≤ 100000000) X => one_any k X hk)
  go_enter Tryd.func34, Tryd.ntmps34
  go_upto_region 4 with (fail)
  obtain ⟨hb1, hb2⟩ := bits_in BinOp.or n 1
  generalize bits BinOp.or IntKind.u32 (n : Int) 1 = x0 at *
  go_loopw [5, 6, 7] (fun s5 s6 s7 w' => PaRel w s5 s6 s7 w') (fun _ _ s7 _ => toM 1000 s7)
  case atStart => exact ⟨0, x0, none, 0, [], by omega, rfl, rfl, hb1, hb2, rfl, OL.nil _ _ _, rfl, (fun v h => by cases h), Ext.refl _⟩
  case round =>
    obtain ⟨i, x, A, c, l, hi, rfl, rfl, hx0, hx1, rfl, ho, hl, hb, hxr⟩ := hrel
    have HOL := Lib.hid ho
    have HXR := Lib.hid hxr
    have HLN := Lib.hid hl
    have HBD := Lib.hid hb
    have hl5 : l.length ≤ 1000 := by omega
    clear ho hxr hl hb
    obtain ⟨r, hr⟩ : ∃ r, r = n % m := ⟨_, rfl⟩
    have er : (n : Int) % (m : Int) = (r : Int) := by omega
    have hrm : r < m := by rw [hr]; exact Nat.mod_lt _ (by omega)
    clear hr
    by_cases hir : i < 1 + r
    · have hirI : (i : Int) < 1 + (r : Int) := by omega
      have hi5 : (i : Int) ≤ 1000 := by omega
      go_upto_region 7 with (fail)
      obtain ⟨y, hy⟩ : ∃ y : Int, y = (x * 1664525 % 4294967296 + 1013904223) % 4294967296 := ⟨_, rfl⟩
      rw [← hy]
      have hy0 : 0 ≤ y ∧ y ≤ 4294967295 := by omega
      obtain ⟨q, hq⟩ : ∃ q : Nat, y / 256 = (q : Int) := ⟨(y / 256).toNat, by omega⟩
      have hq2 : q ≤ 100000000 := by omega
      have HQ := Lib.hid (HO.out q hq2)
      clear hy
      obtain ⟨hy1, hy2⟩ := hy0
      go_wp2_with (first | (go_at_call 45; refine (HQ.out _).mono ?_; rintro e w1 ⟨v, rfl, hvs, hx⟩; obtain ⟨A5, c5, w5, hrun, ho5, hb5⟩ := ap44_one w1 (HOL.out.ext hx) v w1.heap.size rfl (by omega) (Nat.le_trans HXR.out.lt hx.lt); have HO5 := Lib.hid ho5; have HB5 := Lib.hid hb5; have HVS := Lib.hid hvs; have HX5 := Lib.hid hx; clear ho5 hb5 hvs hx) | (at_builtin; refine wpList_append_run (s := .tmp 22) (x := .tmp 27) hrun rfl rfl rfl rfl rfl ?_))
      refine ⟨⟨i + 1, y, A5, c5, l ++ [v], by omega, rfl, rfl, hy1, hy2, by rw [List.length_append]; rfl, HO5.out, by rw [List.length_append, HLN.out]; rfl, fun u hu => ?_, Below.trans (HXR.out.trans HX5.out) HB5.out⟩, by simp only [toM]; omega⟩
      rcases List.mem_append.1 hu with h | h
      · exact HBD.out u h
      · obtain rfl : u = v := by simpa using h
        exact HVS.out
    · have hirI : ¬ (i : Int) < 1 + (r : Int) := by omega
      have hi1 : 1 ≤ i := by omega
      go_wp2
      go_ret
      exact ⟨A, c, l, rfl, HOL.out, by rw [HLN.out]; exact hi1, hl5, HBD.out, HXR.out⟩
end Go.Proofs.YtbfogchdeijedaaDoor
