/- carries: walked. -/
import Derived.Test.YtdbnddmncbjobaaGreatDoorQbp
namespace Go.Proofs.YtdbnddmncbjobaaGreatDoor
open Go Go.RowKit
attribute [local go_sem] Oper.semAt_some

theorem citP_mem {b : Bk} {n s line : Int} {p : Pg} {x : Ln} (h : citP b n s line = some (p, x)) : p ∈ pagesB b ∧ x ∈ p.body ++ p.nts := by
  unfold citP at h
  obtain ⟨q, h1, h2⟩ := Option.bind_eq_some_iff.1 h
  by_cases h3 : line < 1
  · rw [if_pos h3] at h2; cases h2
  · rw [if_neg h3] at h2
    obtain ⟨y, h4, h5⟩ := Option.map_eq_some_iff.1 h2
    simp only [Prod.mk.injEq] at h5
    obtain ⟨rfl, rfl⟩ := h5
    exact ⟨(page_mem h1).1, List.mem_of_getElem? h4⟩
theorem OkT.wordsN {t : Tx} (h : OkT t) : wordsN (t.paras ++ t.notes) ≤ 10000 := by
  have hp0 : ∀ p ∈ t.paras ++ t.notes, p.length ≤ 40 := fun p hp => by
    rcases List.mem_append.1 hp with h9 | h9
    · exact (h.par.len p h9).2
    · have := (h.len p h9).2; omega
  have hflat := flat_lt (ps := t.paras ++ t.notes) fun p hp => by have := hp0 p hp; omega
  have hwn : YtdbnddmncbjobaaGreatDoor.wordsN (t.paras ++ t.notes) = (t.paras ++ t.notes).flatten.length := by unfold YtdbnddmncbjobaaGreatDoor.wordsN; rw [List.length_flatten]
  rw [List.length_append] at hflat
  have := h.np
  have := h.nn
  omega
def CaR (w1 : World) (fr hn : Int) (s13 : Value) (W : World) : Prop := ∃ n : Int, fr ≤ n ∧ n ≤ hn ∧ s13 = .int .i64 n ∧ Ext w1 W
def caM (un : Int) (s13 : Value) : Nat := match s13 with | .int _ z => (un - z).toNat | _ => 0
set_option maxHeartbeats 4000000 in
set_option maxRecDepth 100000 in
theorem carries_any (P Q : Nat → Prop) (w : World) (num suf ent ver : Int) (V7 V8 V1 V2 : Value) (hV : (V7.oneCell' = true ∧ V8.oneCell' = true) ∧ V1.oneCell' = true ∧ V2.oneCell' = true) (fr un : Int) (t : Tx) (A5 A6 S : Option Addr) (n5 c5 n6 c6 m cS : Nat) (ls : List Sea) (key : List UInt8) (tb : Int) (h5 : kWs.row w P A5 n5 t.paras) (h6 : kWs.row w P A6 n6 t.notes) (hok : OkT t)
    (hs : kSea.row w Q S m ls) (hm : m ≤ 1000000) (hg : ∀ s ∈ ls, OkSea s) (hfr : 0 ≤ fr ∧ un ≤ 1000000) (hh : ∃ n : Int, fr ≤ n ∧ n < un ∧ ∃ y, wordT t n = some y ∧ y.key = key ∧ y.tb = tb ∧ seald ls ent ver n = false) :
    Calls Tryz.prog 53 #[.agg #[.int .i64 num, .int .i64 suf, .int .i64 ent, .int .i64 ver, V7, V8], .agg #[.int .i64 fr, .int .i64 un, V1, V2], .agg #[.slice A5 n5 c5, .slice A6 n6 c6], .slice S m cS, .string ⟨key.toArray⟩, .int .i64 tb] w fun e w' => e = .returned (.bool true) ∧ Ext w w' := by
  obtain ⟨hn, hn1, hn2, hy, hw, hk, htb, hsl⟩ := hh
  have HW := Lib.hid hw
  have HHY := Lib.hid (And.intro hk (And.intro htb hsl))
  have HGW := Lib.hid (fun X (hX : Ext w X) (k : Int) (hk : k ≤ 9223372036854775807) => gword_any _ X A5 A6 n5 n6 c5 c6 t k (Lay.row_ext h5 hX) (Lay.row_ext h6 hX) (by have := hok.np; omega) (by have := hok.nn; omega) (by have := hok.wordsN; omega) hk)
  have HGR := Lib.hid (fun X (hX : Ext w X) (k : Int) => groups_any _ X S m cS ls ent ver k (Lay.row_ext hs hX) hm hg)
  obtain ⟨z, hz⟩ : ∃ z, w.heap.size = z := ⟨_, rfl⟩
  obtain ⟨w1, hw1⟩ : ∃ w1, ((w.alloc (.cells #[.int .i64 num, .int .i64 suf, .int .i64 ent, .int .i64 ver, V7, V8] 84)).alloc (.cells #[.int .i64 fr, .int .i64 un, V1, V2] 86)).alloc (.cells #[.slice A5 n5 c5, .slice A6 n6 c6] 53) = w1 := ⟨_, rfl⟩
  have hx1 : Ext w w1 := by rw [← hw1]; exact (((Ext.refl w).alloc _).alloc _).alloc _
  have hB0 : w1.heap[z]? = some (.cells #[.int .i64 num, .int .i64 suf, .int .i64 ent, .int .i64 ver, V7, V8] 84 (0, 0)) := by rw [← hw1, ← hz, heap_alloc_old _ _ _ (by simp; omega), heap_alloc_old _ _ _ (by simp)]; exact heap_alloc_new _ _
  have hB1 : w1.heap[z + 1]? = some (.cells #[.int .i64 fr, .int .i64 un, V1, V2] 86 (0, 0)) := by rw [← hw1, ← hz, heap_alloc_old _ _ _ (by simp)]; exact heap_alloc_at _ _ _ _ (by simp)
  have hB2 : w1.heap[z + 1 + 1]? = some (.cells #[.slice A5 n5 c5, .slice A6 n6 c6] 53 (0, 0)) := by rw [← hw1, ← hz]; exact heap_alloc_at _ _ _ _ (by simp)
  obtain ⟨z1, hz1⟩ : ∃ z1, z + 1 = z1 := ⟨_, rfl⟩
  rw [hz1] at hB1 hB2
  obtain ⟨z2, hz2⟩ : ∃ z2, z1 + 1 = z2 := ⟨_, rfl⟩
  rw [hz2] at hB2
  have HX1 := Lib.hid hx1
  have HQ := Lib.hid (fun X (hX : Ext w1 X) => (show (X.cell? ⟨z, 2, none⟩ = some (.int .i64 ent) ∧ X.cell? ⟨z, 3, none⟩ = some (.int .i64 ver)) ∧ (X.cell? ⟨z1, 0, none⟩ = some (.int .i64 fr) ∧ X.cell? ⟨z1, 1, none⟩ = some (.int .i64 un)) ∧ X.cell? ⟨z2, 0, none⟩ = some (.slice A5 n5 c5) ∧ X.cell? ⟨z2, 1, none⟩ = some (.slice A6 n6 c6) from
    have k0 := (hX.block _ (lt_of_block hB0)).trans hB0
    have k1 := (hX.block _ (lt_of_block hB1)).trans hB1
    have k2 := (hX.block _ (lt_of_block hB2)).trans hB2
    ⟨⟨cell_of k0 (i := 2) rfl, cell_of k0 (i := 3) rfl⟩, ⟨cell_of k1 (i := 0) rfl, cell_of k1 (i := 1) rfl⟩, cell_of k2 (i := 0) rfl, cell_of k2 (i := 1) rfl⟩))
  obtain ⟨⟨a2, a3⟩, ⟨b0, b1⟩, d0, d1⟩ := HQ.out w1 (Ext.refl _)
  obtain ⟨⟨v7, v8⟩, v1, v2⟩ := hV
  clear h5 h6 hok hs hm hg hB0 hB1 hB2 hx1 hw hk htb hsl
  go_enter Tryz.func53, Tryz.ntmps53
  go_wp2_with fail
  clear hw1 hz hz1 hz2 v7 v8 v1 v2 a2 a3 b0 b1 d0 d1
  go_loopw [13] (fun s13 W => CaR w1 fr hn s13 W) (fun s13 _ => caM un s13)
  case atStart => exact ⟨fr, Int.le_refl _, hn1, rfl, Ext.refl _⟩
  case round =>
    obtain ⟨n, hnf, hnh, rfl, hxr⟩ := hrel
    have HXR := Lib.hid hxr
    have HXW := Lib.hid (HX1.out.trans hxr)
    have hN : n < un := by omega
    have hwn : IntKind.i64.wrap (n + 1) = n + 1 := IntWalk.i64_in _ (by omega)
    have HWD := Lib.hid (HGW.out _ HXW.out n (by omega))
    obtain ⟨⟨a2, a3⟩, ⟨b0, b1⟩, d0, d1⟩ := HQ.out _ hxr
    have HNE := Lib.hid (fun (h9 : ∀ y, wordT t n = some y → y.key = key → y.tb = tb → seald ls ent ver n = true) => show n + 1 ≤ hn from by
      rcases Int.lt_or_eq_of_le hnh with h8 | h8
      · omega
      · subst h8
        have := h9 hy HW.out HHY.out.1 HHY.out.2.1
        rw [HHY.out.2.2] at this
        cases this)
    clear hxr
    cases ho : wordT t n with
    | none =>
      have HNX := Lib.hid (HNE.out fun y h9 => by rw [ho] at h9; cases h9)
      rw [ho] at HWD
      clear ho
      have HWN := Lib.hid (show Calls Tryz.prog 32 #[.agg #[.slice A5 n5 c5, .slice A6 n6 c6], .int .i64 n] wr (fun e w' => e = .returned (.tuple #[.agg #[.string ⟨#[]⟩, .string ⟨#[]⟩, .int .i64 0, .int .i64 0], .bool false]) ∧ Ext wr w') from HWD.out)
      go_wp2_with (first | (go_at_call 32; refine (HWN.out).mono ?_; rintro e w8 ⟨rfl, hx8⟩; have HX8 := Lib.hid hx8; clear hx8))
      go_roundw
      case rel => exact ⟨n + 1, by omega, HNX.out, rfl, (HXR.out.trans HX8.out).alloc _⟩
      case measure => simp only [caM]; omega
    | some y =>
      rw [ho] at HWD
      have HO := Lib.hid ho
      clear ho
      have HWS := Lib.hid (show Calls Tryz.prog 32 #[.agg #[.slice A5 n5 c5, .slice A6 n6 c6], .int .i64 n] wr (fun e w' => e = .returned (.tuple #[.agg #[.string ⟨y.s.toArray⟩, .string ⟨y.key.toArray⟩, .int .i64 y.tb, .int .i64 y.nt], .bool true]) ∧ Ext wr w') from HWD.out)
      go_upto_region 5 with (first | (go_at_call 32; refine (HWS.out).mono ?_; rintro e w8 ⟨rfl, hx8⟩; have HX8 := Lib.hid hx8; clear hx8))
      obtain ⟨w9, hw9⟩ : ∃ w9, w8.alloc (.cells #[.string ⟨y.s.toArray⟩, .string ⟨y.key.toArray⟩, .int .i64 y.tb, .int .i64 y.nt] 60) = w9 := ⟨_, rfl⟩
      obtain ⟨z17, hz17⟩ : ∃ z17, w8.heap.size = z17 := ⟨_, rfl⟩
      have hx9 : Ext w8 w9 := by rw [← hw9]; exact (Ext.refl w8).alloc _
      have hB9 : w9.heap[z17]? = some (.cells #[.string ⟨y.s.toArray⟩, .string ⟨y.key.toArray⟩, .int .i64 y.tb, .int .i64 y.nt] 60 (0, 0)) := by rw [← hw9, ← hz17]; exact heap_alloc_new _ _
      rw [hw9, hz17]
      have HX9 := Lib.hid (HXR.out.trans (HX8.out.trans hx9))
      have g1 := cell_of hB9 (i := 1) rfl
      have g2 := cell_of hB9 (i := 2) rfl
      clear hx9 hB9 hw9 hz17 a2 a3 b0 b1 d0 d1
      obtain ⟨⟨a2, a3⟩, ⟨b0, b1⟩, d0, d1⟩ := HQ.out _ HX9.out
      by_cases hk0 : y.key = key
      case neg =>
        have hkb : (y.key == key) = false := by simpa using hk0
        have HNX := Lib.hid (HNE.out fun y' h9 h8 => by rw [HO.out] at h9; injection h9 with h9; subst h9; exact absurd h8 hk0)
        clear hk0
        go_wp2_with fail
        go_roundw
        case rel => exact ⟨n + 1, by omega, HNX.out, rfl, HX9.out⟩
        case measure => simp only [caM]; omega
      have hkb : (y.key == key) = true := by simpa using hk0
      by_cases ht0 : y.tb = tb
      case neg =>
        have htb : (y.tb == tb) = false := by simpa using ht0
        have HNX := Lib.hid (HNE.out fun y' h9 _ h7 => by rw [HO.out] at h9; injection h9 with h9; subst h9; exact absurd h7 ht0)
        clear hk0 ht0
        go_wp2_with fail
        go_roundw
        case rel => exact ⟨n + 1, by omega, HNX.out, rfl, HX9.out⟩
        case measure => simp only [caM]; omega
      have htb : (y.tb == tb) = true := by simpa using ht0
      obtain ⟨sl, hsl⟩ : ∃ sl, seald ls ent ver n = sl := ⟨_, rfl⟩
      have HG9 := Lib.hid (HGR.out w9 (HX1.out.trans HX9.out) n)
      rw [hsl] at HG9
      have HSL := Lib.hid hsl
      clear hk0 ht0 hsl
      cases sl with
      | true =>
        have HNX := Lib.hid (HNE.out fun y' _ _ _ => HSL.out)
        go_wp2_with (first | (go_at_call 34; refine (HG9.out).mono ?_; rintro e w10 ⟨g, rfl, hg, hx10⟩; have HX10 := Lib.hid hx10; have hg0 : (g == 0) = false := beq_eq_false_iff_ne.2 (fun e9 => absurd (hg.1 e9) (by decide)); clear hg hx10))
        go_roundw
        case rel => exact ⟨n + 1, by omega, HNX.out, rfl, HX9.out.trans HX10.out⟩
        case measure => simp only [caM]; omega
      | false =>
        go_wp2_with (first | (go_at_call 34; refine (HG9.out).mono ?_; rintro e w10 ⟨g, rfl, hg, hx10⟩; have HX10 := Lib.hid hx10; obtain rfl : g = 0 := hg.2 rfl; clear hg hx10))
        go_ret
        exact ⟨rfl, HX1.out.trans (HX9.out.trans HX10.out)⟩
end Go.Proofs.YtdbnddmncbjobaaGreatDoor
