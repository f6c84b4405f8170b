/- The Maker's Bool; Number, Date and Bool at all levels. -/
import Derived.Test.YtnpenepdechkjaaGreatDoorKh
import Derived.Test.YtnpenepdechkjaaGreatDoorVc
namespace Go.Proofs.YtnpenepdechkjaaGreatDoor
open Go Go.RowKit

set_option maxHeartbeats 2000000 in
set_option maxRecDepth 100000 in
theorem bool_step (deep : Nat) (hd : deep ≤ 7) (ih : 1 ≤ deep → MkOK 137 (deep - 1) ∧ MkOK 99 (deep - 1) ∧ MkOK 98 (deep - 1)) : MkOK 98 deep := by
 intro W b A c l a hmb hA ha
 have ha0 := AS.begin hmb hA
 have hbW := hmb.lt
 have hFP := FN_pos deep
 have HS137 := Lib.hid (fun h1 => MkOK.sub (ih h1).1 h1 W b A c l hA)
 have HS99 := Lib.hid (fun h1 => MkOK.sub (ih h1).2.1 h1 W b A c l hA)
 have HS98 := Lib.hid (fun h1 => MkOK.sub (ih h1).2.2 h1 W b A c l hA)
 have hdI : (deep : Int) ≤ 7 := by omega
 clear ih
 go_enter Tryz.func98, Tryz.ntmps98
 go_upto_region 1 with (fail)
 have HA0 := Lib.hid ha0
 clear ha0 hmb
 generalize W.alloc (.cells #[.int .i64 0, .int .i64 0, .string ⟨#[]⟩, .slice none 0 0] 31) = w1 at *
 go_upto_region 2 with (first | (go_at_call 44; refine (HA0.out.nextI (by omega) 6 6 rfl (by decide) (by decide)).mono ?_; rintro e w2 ⟨k0, rfl, hk0, ha1, hm1⟩))
 have HA1 := Lib.hid ha1
 have hkI : (k0 : Int) < 6 := by omega
 clear ha1 hm1
 go_upto_if 13 with (first | (go_at_call 95; refine (HA1.out.done deep (by omega)).mono ?_; rintro e w3 ⟨v, rfl, hv, hx⟩; have HV := Lib.hid hv; have HX3 := Lib.hid hx; clear hv hx))
 have HA := Lib.hid (HA1.out.ext HX3.out)
 cases v
 case true =>
  obtain ⟨_, z0, z1, z2, z3, z4, z5, z6, z7⟩ := HA.out.nx.nb
  go_wp2
  refine bodyPost_ret (v := .agg #[.int .i64 2, .int .i64 (1 - (k0 : Int) / 5), .string ⟨#[]⟩, .slice none 0 0]) (by simp [results, Tryz.results98, go_sem, *]) rfl ?_
  exact HA.out.fin (by omega) ⟨2, 1 - (k0 : Int) / 5, ⟨#[]⟩, none, 0, 0⟩ (.nd 2 (1 - (k0 : Int) / 5) [] []) (HT.leaf _ _ 2 _ []) (.leaf (.bool _ _ (by omega)))
 case false =>
  have h9 : deep ≠ 0 := fun h => Bool.noConfusion (HV.out h)
  have h1 : 1 ≤ deep := by omega
  have hk0J : (0 : Int) ≤ (k0 : Int) := Int.natCast_nonneg _
  clear HV HA0 HA1 hk0
  generalize (k0 : Int) = kk at *
  rcases (by omega : kk = 0 ∨ kk = 1 ∨ kk = 2 ∨ kk = 3 ∨ (4 ≤ kk ∧ kk ≤ 5)) with rfl | rfl | rfl | rfl | hk
  ·go_wp2_with (first | (go_at_call 44; refine (HA.out.nextI (by omega) 2 2 rfl (by decide) (by decide)).mono ?_; rintro e u1 ⟨k1, rfl, hk1, ha1, hm1⟩; have HA1 := Lib.hid ha1; obtain ⟨_, z0, z1, z2, z3, z4, z5, z6, z7⟩ := ha1.nx.nb; clear ha1))
   refine bodyPost_ret (v := .agg #[.int .i64 2, .int .i64 (k1), .string ⟨#[]⟩, .slice none 0 0]) (by simp [results, Tryz.results98, go_sem, *]) rfl ?_
   exact HA1.out.fin (by omega) ⟨2, k1, ⟨#[]⟩, none, 0, 0⟩ (.nd 2 (k1) [] []) (HT.leaf _ _ 2 (k1) []) (.leaf (.bool _ _ (by omega)))
  ·have h1I : (1 : Int) ≤ (deep : Int) := by omega
   have hwd : IntKind.i64.wrap ((deep : Int) - 1) = (deep : Int) - 1 := IntWalk.i64_in _ (by omega)
   go_wp2_with (first
    | (go_at_call 98; refine (HS98.out h1 _ _ HA.out (by have := FN_up h1; omega)).mono ?_; rintro e u1 hp; obtain ⟨d1, t1, rfl, hr9, hg9, ha9, hm1⟩ := HA.out.sub hp; have HA1 := Lib.hid ha9; have HR1 := Lib.hid hr9; have HGt1 := Lib.hid hg9; clear hp ha9 hr9 hg9; have HRN := Lib.hid (HT.node HA1.out.sz 5 0 wNot [d1] [t1] #[.int .i64 d1.k, .int .i64 d1.n, .string d1.s, .slice d1.A d1.m d1.c] 1 rfl rfl (HT.kids1 HR1.out)); have HB1 := Lib.hid (HA1.out.ext (show Ext u1 (u1.alloc (.cells #[.int .i64 d1.k, .int .i64 d1.n, .string d1.s, .slice d1.A d1.m d1.c] 31)) from (Ext.refl _).alloc _)))
    | (go_at_call 96; refine (mnode_any _ _ _ _ _ _).mono ?_; rintro e u2 ⟨rfl, hx3⟩; have HA3 := Lib.hid (HB1.out.ext hx3); have HR3 := Lib.hid (HRN.out.mv (Mv.of_ext hx3) hbW); obtain ⟨_, z0, z1, z2, z3, z4, z5, z6, z7⟩ := HA3.out.nx.nb))
   refine bodyPost_ret (v := .agg #[.int .i64 5, .int .i64 0, .string ⟨#[110, 111, 116]⟩, .slice (some ⟨u1.heap.size, 0, none⟩) 1 1]) (by simp [results, Tryz.results98, go_sem, *]) rfl ?_
   exact HA3.out.fin (by have := FN_up h1; omega) ⟨5, 0, ⟨#[110, 111, 116]⟩, some ⟨u1.heap.size, 0, none⟩, 1, 1⟩ (.nd 5 0 wNot [t1]) HR3.out (.up h1 (.una2 (by decide) HGt1.out.1) (by have := HGt1.out.2; simp only [tszs]; omega))
  ·have h1I : (1 : Int) ≤ (deep : Int) := by omega
   have hwd : IntKind.i64.wrap ((deep : Int) - 1) = (deep : Int) - 1 := IntWalk.i64_in _ (by omega)
   go_upto_region 11 with (first | (go_at_call 98; refine (HS98.out h1 _ _ HA.out (by have := FN_up h1; omega)).mono ?_; rintro e u1 hp; obtain ⟨d1, t1, rfl, hr9, hg9, ha9, hm1⟩ := HA.out.sub hp; have HA1 := Lib.hid ha9; have HR1 := Lib.hid hr9; have HGt1 := Lib.hid hg9; clear hp ha9 hr9 hg9))
   have hx6 : Ext u1 (u1.alloc (.cells #[.int .i64 d1.k, .int .i64 d1.n, .string d1.s, .slice d1.A d1.m d1.c] 31)) := (Ext.refl _).alloc _
   have hc6 : NX (u1.alloc (.cells #[.int .i64 d1.k, .int .i64 d1.n, .string d1.s, .slice d1.A d1.m d1.c] 31)) u1.heap.size d1.k d1.n d1.s (.slice d1.A d1.m d1.c) := heap_alloc_new _ _
   generalize u1.alloc (.cells #[.int .i64 d1.k, .int .i64 d1.n, .string d1.s, .slice d1.A d1.m d1.c] 31) = w6 at *
   have hgb6 : u1.heap.size ≠ b := by have := HA1.out.sz; omega
   have hgW6 : u1.heap.size ≠ W.heap.size := by have := HA1.out.sz; omega
   generalize u1.heap.size = g6 at *
   have HC6 := Lib.hid hc6
   have HB6 := Lib.hid (HA1.out.ext hx6)
   have HR6 := Lib.hid (HR1.out.mv (Mv.of_ext hx6) hbW)
   clear hc6 hx6
   refine wp_region_E (fun _ => True) (fun X => Kp b W.heap.size w6 X) (fun _ => true) (by kernel_rfl) ?_
   obtain ⟨u1, hu9, hx9⟩ : ∃ x, w6.drew = x ∧ Ext w6 x := ⟨_, rfl, (Ext.refl _).drew⟩
   rw [hu9]
   clear hu9
   have HNX3 := Lib.hid (HC6.out.mv (Mv.of_ext hx9) hgb6)
   have HHT4 := Lib.hid (HR6.out.mv (Mv.of_ext hx9) hbW)
   have HA2 := Lib.hid (HB6.out.ext hx9)
   refine wpE_strong (T' := fun X => Kp b W.heap.size u1 X) (fun _ h9 => (Kp.of_ext _ hx9).trans h9) _ _ _ _ ?_
   clear hx9
   refine tkA (i := 1) (d := some 39) (v := ?_) (Kp.refl _ _ _) ?_ ?_; rotate_left
   ·(intro w9 hT9; clear hT9; go_simp; try with_reducible rfl)
   (try simp only [Act.put, sA, sZ, sS])
   refine tkA (i := 5) (d := some 43) (v := ?_) (Kp.refl _ _ _) ?_ ?_; rotate_left
   ·(intro w9 hT9; obtain ⟨_, q0, q1, q2, q3, _, _, _, _⟩ := (HNX3.out.kp hT9 hgb6 hgW6).nb; go_simp; try with_reducible rfl)
   (try simp only [Act.put, sA, sZ, sS])
   refine tkA (i := 6) (d := some 44) (v := ?_) (Kp.refl _ _ _) ?_ ?_; rotate_left
   ·(intro w9 hT9; clear hT9; go_simp; try with_reducible rfl)
   (try simp only [Act.put, sA, sZ, sS])
   refine tkA (i := 7) (d := some 45) (v := ?_) (Kp.refl _ _ _) ?_ ?_; rotate_left
   ·(intro w9 hT9; clear hT9; go_simp; try with_reducible rfl)
   (try simp only [Act.put, sA, sZ, sS])
   refine tkA (i := 8) (d := some 46) (v := ?_) (Kp.refl _ _ _) ?_ ?_; rotate_left
   ·(intro w9 hT9; clear hT9; go_simp; try with_reducible rfl)
   (try simp only [Act.put, sA, sZ, sS])
   refine two (i := 0) (j := 2) (fun K hK => ?_) (fun K hK => ?_)
   ·skip
    simp only [List.getElem_toArray, List.getElem_cons_zero]
    go_simp
    have hx6 : Ext u1 (u1.alloc (.cells #[.string ⟨#[97, 110, 100]⟩, .string ⟨#[111, 114]⟩] 9)) := (Ext.refl _).alloc _
    have hn9 := SR.new u1 [wAnd, wOr] #[.string ⟨#[97, 110, 100]⟩, .string ⟨#[111, 114]⟩] rfl
    obtain ⟨u5, hu9⟩ : ∃ x, x = u1.alloc (.cells #[.string ⟨#[97, 110, 100]⟩, .string ⟨#[111, 114]⟩] 9) := ⟨_, rfl⟩
    obtain ⟨g7, hg7⟩ : ∃ x, x = u1.heap.size := ⟨_, rfl⟩
    have hg7b : g7 ≠ b := by have := HA2.out.sz; omega
    have hg7W : g7 ≠ W.heap.size := by have := HA2.out.sz; omega
    rw [← hu9, ← hg7] at hn9
    rw [← hu9] at hx6 ⊢
    rw [← hg7]
    have HA8 := Lib.hid (HA2.out.ext hx6)
    have HN9 := Lib.hid hn9
    clear hu9 hn9 hg7
    have HNX10 := Lib.hid (HNX3.out.mv (Mv.of_ext hx6) hgb6)
    have HHT11 := Lib.hid (HHT4.out.mv (Mv.of_ext hx6) hbW)
    refine NextE.go (Z := Kp b W.heap.size) (u := u1) hK (Kp.of_ext _ hx6) (fun _ h9 => (Kp.of_ext _ hx6).trans h9) ?_
    clear hK K
    (try simp only [Act.put, sA, sZ, sS])
    try clear hx6
    refine one (i := 2) (fun K hK => ?_)
    simp only [List.getElem_toArray, List.getElem_cons_succ, List.getElem_cons_zero]
    go_simp
    go_at_call 44
    refine (HA8.out.nextI (by have := FN_up h1; omega) 2 2 rfl (by decide) (by decide)).mono ?_
    rintro e u13 ⟨k12, rfl, hk12, ha9, hm14⟩
    have HA15 := Lib.hid ha9
    clear ha9
    simp only []
    have hk12I : (k12 : Int) < 2 := by omega
    have hk12J : (0 : Int) ≤ (k12 : Int) := Int.natCast_nonneg _
    have HSR16 := Lib.hid (HN9.out.mv hm14 hg7b)
    have HNX17 := Lib.hid (HNX10.out.mv hm14 hgb6)
    have HHT18 := Lib.hid (HHT11.out.mv hm14 hbW)
    obtain ⟨s19, hs19⟩ : ∃ s, ([wAnd, wOr] : List (List UInt8))[k12]? = some s := ⟨_, List.getElem?_eq_getElem (by simpa using hk12)⟩
    have Ms19 := Lib.hid (List.mem_of_getElem? hs19)
    have Gs19 := Lib.hid hs19
    obtain ⟨S20, hS20⟩ : ∃ S, S = bs s19 := ⟨_, rfl⟩
    have ES20 := Lib.hid hS20
    clear hs19 hS20
    refine NextE.go (Z := Kp b W.heap.size) (u := u5) hK (Kp.of_mv _ hm14) (fun _ h9 => (Kp.of_mv _ hm14).trans h9) ?_
    clear hK K
    (try simp only [Act.put, sA, sZ, sS])
    try clear hm14
    refine tkA (i := 3) (d := some 41) (v := ?_) (Kp.refl _ _ _) ?_ ?_; rotate_left
    ·(intro w9 hT9; clear hT9; go_simp; try with_reducible rfl)
    (try simp only [Act.put, sA, sZ, sS])
    refine tkA (i := 4) (d := some 42) (v := ?_) (Kp.refl _ _ _) ?_ ?_; rotate_left
    ·(intro w9 hT9; have q9 := (HSR16.out.kp hT9 hg7b hg7W).at_ _ _ Gs19.out; rw [← ES20.out] at q9; go_simp; try with_reducible rfl)
    (try simp only [Act.put, sA, sZ, sS])
    refine one (i := 9) (fun K hK => ?_)
    simp only [List.getElem_toArray, List.getElem_cons_succ, List.getElem_cons_zero]
    go_simp
    go_at_call 98
    refine (HS98.out h1 _ _ HA15.out (by have := FN_up h1; omega)).mono ?_
    rintro e u21 hp9
    obtain ⟨d24, t25, rfl, hr9, hg9, ha9, hm22⟩ := HA15.out.sub hp9
    have HA23 := Lib.hid ha9
    have HR26 := Lib.hid hr9
    have HGt25 := Lib.hid hg9
    clear hp9 ha9 hr9 hg9
    simp only []
    have HSR27 := Lib.hid (HSR16.out.mv hm22 hg7b)
    have HNX28 := Lib.hid (HNX17.out.mv hm22 hgb6)
    have HHT29 := Lib.hid (HHT18.out.mv hm22 hbW)
    refine NextE.go (Z := Kp b W.heap.size) (u := u13) hK (Kp.of_mv _ hm22) (fun _ h9 => (Kp.of_mv _ hm22).trans h9) ?_
    clear hK K
    (try simp only [Act.put, sA, sZ, sS])
    try clear hm22
    refine one (i := 10) (fun K hK => ?_)
    simp only [List.getElem_toArray, List.getElem_cons_succ, List.getElem_cons_zero]
    go_simp
    have hx31 : Ext u21 (u21.alloc (.cells #[.int .i64 d1.k, .int .i64 d1.n, .string d1.s, .slice d1.A d1.m d1.c, .int .i64 d24.k, .int .i64 d24.n, .string d24.s, .slice d24.A d24.m d24.c] 31)) := (Ext.refl _).alloc _
    have hn9 : ∀ (k n : Int) (s : List UInt8), HT W (u21.alloc (.cells #[.int .i64 d1.k, .int .i64 d1.n, .string d1.s, .slice d1.A d1.m d1.c, .int .i64 d24.k, .int .i64 d24.n, .string d24.s, .slice d24.A d24.m d24.c] 31)) ⟨k, n, bs s, some ⟨u21.heap.size, 0, none⟩, 2, 2⟩ (.nd k n s [t1, t25]) := fun k n s => HT.node HA23.out.sz k n s [d1, d24] [t1, t25] #[.int .i64 d1.k, .int .i64 d1.n, .string d1.s, .slice d1.A d1.m d1.c, .int .i64 d24.k, .int .i64 d24.n, .string d24.s, .slice d24.A d24.m d24.c] 2 rfl rfl (HT.kids2 HHT29.out HR26.out)
    obtain ⟨u30, hu9⟩ : ∃ x, x = u21.alloc (.cells #[.int .i64 d1.k, .int .i64 d1.n, .string d1.s, .slice d1.A d1.m d1.c, .int .i64 d24.k, .int .i64 d24.n, .string d24.s, .slice d24.A d24.m d24.c] 31) := ⟨_, rfl⟩
    obtain ⟨g32, hg32⟩ : ∃ x, x = u21.heap.size := ⟨_, rfl⟩
    have hg32b : g32 ≠ b := by have := HA23.out.sz; omega
    have hg32W : g32 ≠ W.heap.size := by have := HA23.out.sz; omega
    rw [← hu9, ← hg32] at hn9
    rw [← hu9] at hx31 ⊢
    rw [← hg32]
    have HA33 := Lib.hid (HA23.out.ext hx31)
    have HN34 := Lib.hid hn9
    clear hu9 hn9 hg32
    have HSR35 := Lib.hid (HSR27.out.mv (Mv.of_ext hx31) hg7b)
    have HNX36 := Lib.hid (HNX28.out.mv (Mv.of_ext hx31) hgb6)
    have HHT37 := Lib.hid (HHT29.out.mv (Mv.of_ext hx31) hbW)
    have HHT38 := Lib.hid (HR26.out.mv (Mv.of_ext hx31) hbW)
    refine NextE.go (Z := Kp b W.heap.size) (u := u21) hK (Kp.of_ext _ hx31) (fun _ h9 => (Kp.of_ext _ hx31).trans h9) ?_
    clear hK K
    (try simp only [Act.put, sA, sZ, sS])
    try clear hx31
    refine one (i := 11) (fun K hK => ?_)
    simp only [List.getElem_toArray, List.getElem_cons_succ, List.getElem_cons_zero]
    go_simp
    go_at_call 96
    refine (mnode_any _ _ _ _ _ _).mono ?_
    rintro e u39 ⟨rfl, hx40⟩
    simp only []
    have HSR42 := Lib.hid (HSR35.out.mv (Mv.of_ext hx40) hg7b)
    have HNX43 := Lib.hid (HNX36.out.mv (Mv.of_ext hx40) hgb6)
    have HHT44 := Lib.hid (HHT37.out.mv (Mv.of_ext hx40) hbW)
    have HHT45 := Lib.hid (HHT38.out.mv (Mv.of_ext hx40) hbW)
    have HRW46 := Lib.hid (fun k n s => (HN34.out k n s).mv (Mv.of_ext hx40) hbW)
    have HA41 := Lib.hid (HA33.out.ext hx40)
    refine NextE.go (Z := Kp b W.heap.size) (u := u30) hK (Kp.of_ext _ hx40) (fun _ h9 => (Kp.of_ext _ hx40).trans h9) ?_
    clear hK K
    (try simp only [Act.put, sA, sZ, sS])
    try clear hx40
    refine one (i := 12) (fun K hK => ?_)
    obtain ⟨_, z0, z1, z2, z3, z4, z5, z6, z7⟩ := HA41.out.nx.nb
    simp only [List.getElem_toArray, List.getElem_cons_succ, List.getElem_cons_zero]
    go_simp
    refine hK.out _ _ ⟨fun _ => trivial, Kp.set4 _ _ _ _⟩ (fun _ => ?_)
    clear hK K
    (try simp only [Act.put, sA, sZ, sS])
    refine wpE_done (by kernel_rfl) ?_ _
    go_wp2_with fail
    refine bodyPost_ret (v := .agg #[.int .i64 (6), .int .i64 0, .string S20, .slice (some ⟨g32, 0, none⟩) 2 2]) (by simp [results, Tryz.results98, go_sem, *]) rfl ?_
    exact HA41.out.fin (by have := FN_up h1; omega) ⟨6, 0, S20, some ⟨g32, 0, none⟩, 2, 2⟩ (.nd (6) 0 s19 [t1, t25]) (by rw [ES20.out]; exact HRW46.out _ 0 s19) (.up h1 (.bin2 ((by decide : ∀ s ∈ ([wAnd, wOr] : List (List UInt8)), 1 ≤ lvOf s) _ Ms19.out) HGt1.out.1 HGt25.out.1) (by have := HGt25.out.2; have := HGt1.out.2; simp only [tszs]; omega))
   ·skip
    simp only [List.getElem_toArray, List.getElem_cons_succ, List.getElem_cons_zero]
    go_simp
    go_at_call 44
    refine (HA2.out.nextI (by have := FN_up h1; omega) 2 2 rfl (by decide) (by decide)).mono ?_
    rintro e u48 ⟨k47, rfl, hk47, ha9, hm49⟩
    have HA50 := Lib.hid ha9
    clear ha9
    simp only []
    have hk47I : (k47 : Int) < 2 := by omega
    have hk47J : (0 : Int) ≤ (k47 : Int) := Int.natCast_nonneg _
    have HNX51 := Lib.hid (HNX3.out.mv hm49 hgb6)
    have HHT52 := Lib.hid (HHT4.out.mv hm49 hbW)
    refine NextE.go (Z := Kp b W.heap.size) (u := u1) hK (Kp.of_mv _ hm49) (fun _ h9 => (Kp.of_mv _ hm49).trans h9) ?_
    clear hK K
    (try simp only [Act.put, sA, sZ, sS])
    try clear hm49
    refine two (i := 0) (j := 9) (fun K hK => ?_) (fun K hK => ?_)
    ·skip
     simp only [List.getElem_toArray, List.getElem_cons_zero]
     go_simp
     have hx54 : Ext u48 (u48.alloc (.cells #[.string ⟨#[97, 110, 100]⟩, .string ⟨#[111, 114]⟩] 9)) := (Ext.refl _).alloc _
     have hn9 := SR.new u48 [wAnd, wOr] #[.string ⟨#[97, 110, 100]⟩, .string ⟨#[111, 114]⟩] rfl
     obtain ⟨u53, hu9⟩ : ∃ x, x = u48.alloc (.cells #[.string ⟨#[97, 110, 100]⟩, .string ⟨#[111, 114]⟩] 9) := ⟨_, rfl⟩
     obtain ⟨g55, hg55⟩ : ∃ x, x = u48.heap.size := ⟨_, rfl⟩
     have hg55b : g55 ≠ b := by have := HA50.out.sz; omega
     have hg55W : g55 ≠ W.heap.size := by have := HA50.out.sz; omega
     rw [← hu9, ← hg55] at hn9
     rw [← hu9] at hx54 ⊢
     rw [← hg55]
     have HA56 := Lib.hid (HA50.out.ext hx54)
     have HN57 := Lib.hid hn9
     clear hu9 hn9 hg55
     have HNX58 := Lib.hid (HNX51.out.mv (Mv.of_ext hx54) hgb6)
     have HHT59 := Lib.hid (HHT52.out.mv (Mv.of_ext hx54) hbW)
     obtain ⟨s60, hs60⟩ : ∃ s, ([wAnd, wOr] : List (List UInt8))[k47]? = some s := ⟨_, List.getElem?_eq_getElem (by simpa using hk47)⟩
     have Ms60 := Lib.hid (List.mem_of_getElem? hs60)
     have Gs60 := Lib.hid hs60
     obtain ⟨S61, hS61⟩ : ∃ S, S = bs s60 := ⟨_, rfl⟩
     have ES61 := Lib.hid hS61
     clear hs60 hS61
     refine NextE.go (Z := Kp b W.heap.size) (u := u48) hK (Kp.of_ext _ hx54) (fun _ h9 => (Kp.of_ext _ hx54).trans h9) ?_
     clear hK K
     (try simp only [Act.put, sA, sZ, sS])
     try clear hx54
     refine tkA (i := 3) (d := some 41) (v := ?_) (Kp.refl _ _ _) ?_ ?_; rotate_left
     ·(intro w9 hT9; clear hT9; go_simp; try with_reducible rfl)
     (try simp only [Act.put, sA, sZ, sS])
     refine tkA (i := 4) (d := some 42) (v := ?_) (Kp.refl _ _ _) ?_ ?_; rotate_left
     ·(intro w9 hT9; have q9 := (HN57.out.kp hT9 hg55b hg55W).at_ _ _ Gs60.out; rw [← ES61.out] at q9; go_simp; try with_reducible rfl)
     (try simp only [Act.put, sA, sZ, sS])
     refine one (i := 9) (fun K hK => ?_)
     simp only [List.getElem_toArray, List.getElem_cons_succ, List.getElem_cons_zero]
     go_simp
     go_at_call 98
     refine (HS98.out h1 _ _ HA56.out (by have := FN_up h1; omega)).mono ?_
     rintro e u62 hp9
     obtain ⟨d65, t66, rfl, hr9, hg9, ha9, hm63⟩ := HA56.out.sub hp9
     have HA64 := Lib.hid ha9
     have HR67 := Lib.hid hr9
     have HGt66 := Lib.hid hg9
     clear hp9 ha9 hr9 hg9
     simp only []
     have HSR68 := Lib.hid (HN57.out.mv hm63 hg55b)
     have HNX69 := Lib.hid (HNX58.out.mv hm63 hgb6)
     have HHT70 := Lib.hid (HHT59.out.mv hm63 hbW)
     refine NextE.go (Z := Kp b W.heap.size) (u := u53) hK (Kp.of_mv _ hm63) (fun _ h9 => (Kp.of_mv _ hm63).trans h9) ?_
     clear hK K
     (try simp only [Act.put, sA, sZ, sS])
     try clear hm63
     refine one (i := 10) (fun K hK => ?_)
     simp only [List.getElem_toArray, List.getElem_cons_succ, List.getElem_cons_zero]
     go_simp
     have hx72 : Ext u62 (u62.alloc (.cells #[.int .i64 d1.k, .int .i64 d1.n, .string d1.s, .slice d1.A d1.m d1.c, .int .i64 d65.k, .int .i64 d65.n, .string d65.s, .slice d65.A d65.m d65.c] 31)) := (Ext.refl _).alloc _
     have hn9 : ∀ (k n : Int) (s : List UInt8), HT W (u62.alloc (.cells #[.int .i64 d1.k, .int .i64 d1.n, .string d1.s, .slice d1.A d1.m d1.c, .int .i64 d65.k, .int .i64 d65.n, .string d65.s, .slice d65.A d65.m d65.c] 31)) ⟨k, n, bs s, some ⟨u62.heap.size, 0, none⟩, 2, 2⟩ (.nd k n s [t1, t66]) := fun k n s => HT.node HA64.out.sz k n s [d1, d65] [t1, t66] #[.int .i64 d1.k, .int .i64 d1.n, .string d1.s, .slice d1.A d1.m d1.c, .int .i64 d65.k, .int .i64 d65.n, .string d65.s, .slice d65.A d65.m d65.c] 2 rfl rfl (HT.kids2 HHT70.out HR67.out)
     obtain ⟨u71, hu9⟩ : ∃ x, x = u62.alloc (.cells #[.int .i64 d1.k, .int .i64 d1.n, .string d1.s, .slice d1.A d1.m d1.c, .int .i64 d65.k, .int .i64 d65.n, .string d65.s, .slice d65.A d65.m d65.c] 31) := ⟨_, rfl⟩
     obtain ⟨g73, hg73⟩ : ∃ x, x = u62.heap.size := ⟨_, rfl⟩
     have hg73b : g73 ≠ b := by have := HA64.out.sz; omega
     have hg73W : g73 ≠ W.heap.size := by have := HA64.out.sz; omega
     rw [← hu9, ← hg73] at hn9
     rw [← hu9] at hx72 ⊢
     rw [← hg73]
     have HA74 := Lib.hid (HA64.out.ext hx72)
     have HN75 := Lib.hid hn9
     clear hu9 hn9 hg73
     have HSR76 := Lib.hid (HSR68.out.mv (Mv.of_ext hx72) hg55b)
     have HNX77 := Lib.hid (HNX69.out.mv (Mv.of_ext hx72) hgb6)
     have HHT78 := Lib.hid (HHT70.out.mv (Mv.of_ext hx72) hbW)
     have HHT79 := Lib.hid (HR67.out.mv (Mv.of_ext hx72) hbW)
     refine NextE.go (Z := Kp b W.heap.size) (u := u62) hK (Kp.of_ext _ hx72) (fun _ h9 => (Kp.of_ext _ hx72).trans h9) ?_
     clear hK K
     (try simp only [Act.put, sA, sZ, sS])
     try clear hx72
     refine one (i := 11) (fun K hK => ?_)
     simp only [List.getElem_toArray, List.getElem_cons_succ, List.getElem_cons_zero]
     go_simp
     go_at_call 96
     refine (mnode_any _ _ _ _ _ _).mono ?_
     rintro e u80 ⟨rfl, hx81⟩
     simp only []
     have HSR83 := Lib.hid (HSR76.out.mv (Mv.of_ext hx81) hg55b)
     have HNX84 := Lib.hid (HNX77.out.mv (Mv.of_ext hx81) hgb6)
     have HHT85 := Lib.hid (HHT78.out.mv (Mv.of_ext hx81) hbW)
     have HHT86 := Lib.hid (HHT79.out.mv (Mv.of_ext hx81) hbW)
     have HRW87 := Lib.hid (fun k n s => (HN75.out k n s).mv (Mv.of_ext hx81) hbW)
     have HA82 := Lib.hid (HA74.out.ext hx81)
     refine NextE.go (Z := Kp b W.heap.size) (u := u71) hK (Kp.of_ext _ hx81) (fun _ h9 => (Kp.of_ext _ hx81).trans h9) ?_
     clear hK K
     (try simp only [Act.put, sA, sZ, sS])
     try clear hx81
     refine one (i := 12) (fun K hK => ?_)
     obtain ⟨_, z0, z1, z2, z3, z4, z5, z6, z7⟩ := HA82.out.nx.nb
     simp only [List.getElem_toArray, List.getElem_cons_succ, List.getElem_cons_zero]
     go_simp
     refine hK.out _ _ ⟨fun _ => trivial, Kp.set4 _ _ _ _⟩ (fun _ => ?_)
     clear hK K
     (try simp only [Act.put, sA, sZ, sS])
     refine wpE_done (by kernel_rfl) ?_ _
     go_wp2_with fail
     refine bodyPost_ret (v := .agg #[.int .i64 (6), .int .i64 0, .string S61, .slice (some ⟨g73, 0, none⟩) 2 2]) (by simp [results, Tryz.results98, go_sem, *]) rfl ?_
     exact HA82.out.fin (by have := FN_up h1; omega) ⟨6, 0, S61, some ⟨g73, 0, none⟩, 2, 2⟩ (.nd (6) 0 s60 [t1, t66]) (by rw [ES61.out]; exact HRW87.out _ 0 s60) (.up h1 (.bin2 ((by decide : ∀ s ∈ ([wAnd, wOr] : List (List UInt8)), 1 ≤ lvOf s) _ Ms60.out) HGt1.out.1 HGt66.out.1) (by have := HGt66.out.2; have := HGt1.out.2; simp only [tszs]; omega))
    ·skip
     simp only [List.getElem_toArray, List.getElem_cons_succ, List.getElem_cons_zero]
     go_simp
     go_at_call 98
     refine (HS98.out h1 _ _ HA50.out (by have := FN_up h1; omega)).mono ?_
     rintro e u88 hp9
     obtain ⟨d91, t92, rfl, hr9, hg9, ha9, hm89⟩ := HA50.out.sub hp9
     have HA90 := Lib.hid ha9
     have HR93 := Lib.hid hr9
     have HGt92 := Lib.hid hg9
     clear hp9 ha9 hr9 hg9
     simp only []
     have HNX94 := Lib.hid (HNX51.out.mv hm89 hgb6)
     have HHT95 := Lib.hid (HHT52.out.mv hm89 hbW)
     refine NextE.go (Z := Kp b W.heap.size) (u := u48) hK (Kp.of_mv _ hm89) (fun _ h9 => (Kp.of_mv _ hm89).trans h9) ?_
     clear hK K
     (try simp only [Act.put, sA, sZ, sS])
     try clear hm89
     refine two (i := 0) (j := 10) (fun K hK => ?_) (fun K hK => ?_)
     ·skip
      simp only [List.getElem_toArray, List.getElem_cons_zero]
      go_simp
      have hx97 : Ext u88 (u88.alloc (.cells #[.string ⟨#[97, 110, 100]⟩, .string ⟨#[111, 114]⟩] 9)) := (Ext.refl _).alloc _
      have hn9 := SR.new u88 [wAnd, wOr] #[.string ⟨#[97, 110, 100]⟩, .string ⟨#[111, 114]⟩] rfl
      obtain ⟨u96, hu9⟩ : ∃ x, x = u88.alloc (.cells #[.string ⟨#[97, 110, 100]⟩, .string ⟨#[111, 114]⟩] 9) := ⟨_, rfl⟩
      obtain ⟨g98, hg98⟩ : ∃ x, x = u88.heap.size := ⟨_, rfl⟩
      have hg98b : g98 ≠ b := by have := HA90.out.sz; omega
      have hg98W : g98 ≠ W.heap.size := by have := HA90.out.sz; omega
      rw [← hu9, ← hg98] at hn9
      rw [← hu9] at hx97 ⊢
      rw [← hg98]
      have HA99 := Lib.hid (HA90.out.ext hx97)
      have HN100 := Lib.hid hn9
      clear hu9 hn9 hg98
      have HNX101 := Lib.hid (HNX94.out.mv (Mv.of_ext hx97) hgb6)
      have HHT102 := Lib.hid (HHT95.out.mv (Mv.of_ext hx97) hbW)
      have HHT103 := Lib.hid (HR93.out.mv (Mv.of_ext hx97) hbW)
      obtain ⟨s104, hs104⟩ : ∃ s, ([wAnd, wOr] : List (List UInt8))[k47]? = some s := ⟨_, List.getElem?_eq_getElem (by simpa using hk47)⟩
      have Ms104 := Lib.hid (List.mem_of_getElem? hs104)
      have Gs104 := Lib.hid hs104
      obtain ⟨S105, hS105⟩ : ∃ S, S = bs s104 := ⟨_, rfl⟩
      have ES105 := Lib.hid hS105
      clear hs104 hS105
      refine NextE.go (Z := Kp b W.heap.size) (u := u88) hK (Kp.of_ext _ hx97) (fun _ h9 => (Kp.of_ext _ hx97).trans h9) ?_
      clear hK K
      (try simp only [Act.put, sA, sZ, sS])
      try clear hx97
      refine tkA (i := 3) (d := some 41) (v := ?_) (Kp.refl _ _ _) ?_ ?_; rotate_left
      ·(intro w9 hT9; clear hT9; go_simp; try with_reducible rfl)
      (try simp only [Act.put, sA, sZ, sS])
      refine tkA (i := 4) (d := some 42) (v := ?_) (Kp.refl _ _ _) ?_ ?_; rotate_left
      ·(intro w9 hT9; have q9 := (HN100.out.kp hT9 hg98b hg98W).at_ _ _ Gs104.out; rw [← ES105.out] at q9; go_simp; try with_reducible rfl)
      (try simp only [Act.put, sA, sZ, sS])
      refine one (i := 10) (fun K hK => ?_)
      simp only [List.getElem_toArray, List.getElem_cons_succ, List.getElem_cons_zero]
      go_simp
      have hx107 : Ext u96 (u96.alloc (.cells #[.int .i64 d1.k, .int .i64 d1.n, .string d1.s, .slice d1.A d1.m d1.c, .int .i64 d91.k, .int .i64 d91.n, .string d91.s, .slice d91.A d91.m d91.c] 31)) := (Ext.refl _).alloc _
      have hn9 : ∀ (k n : Int) (s : List UInt8), HT W (u96.alloc (.cells #[.int .i64 d1.k, .int .i64 d1.n, .string d1.s, .slice d1.A d1.m d1.c, .int .i64 d91.k, .int .i64 d91.n, .string d91.s, .slice d91.A d91.m d91.c] 31)) ⟨k, n, bs s, some ⟨u96.heap.size, 0, none⟩, 2, 2⟩ (.nd k n s [t1, t92]) := fun k n s => HT.node HA99.out.sz k n s [d1, d91] [t1, t92] #[.int .i64 d1.k, .int .i64 d1.n, .string d1.s, .slice d1.A d1.m d1.c, .int .i64 d91.k, .int .i64 d91.n, .string d91.s, .slice d91.A d91.m d91.c] 2 rfl rfl (HT.kids2 HHT102.out HHT103.out)
      obtain ⟨u106, hu9⟩ : ∃ x, x = u96.alloc (.cells #[.int .i64 d1.k, .int .i64 d1.n, .string d1.s, .slice d1.A d1.m d1.c, .int .i64 d91.k, .int .i64 d91.n, .string d91.s, .slice d91.A d91.m d91.c] 31) := ⟨_, rfl⟩
      obtain ⟨g108, hg108⟩ : ∃ x, x = u96.heap.size := ⟨_, rfl⟩
      have hg108b : g108 ≠ b := by have := HA99.out.sz; omega
      have hg108W : g108 ≠ W.heap.size := by have := HA99.out.sz; omega
      rw [← hu9, ← hg108] at hn9
      rw [← hu9] at hx107 ⊢
      rw [← hg108]
      have HA109 := Lib.hid (HA99.out.ext hx107)
      have HN110 := Lib.hid hn9
      clear hu9 hn9 hg108
      have HSR111 := Lib.hid (HN100.out.mv (Mv.of_ext hx107) hg98b)
      have HNX112 := Lib.hid (HNX101.out.mv (Mv.of_ext hx107) hgb6)
      have HHT113 := Lib.hid (HHT102.out.mv (Mv.of_ext hx107) hbW)
      have HHT114 := Lib.hid (HHT103.out.mv (Mv.of_ext hx107) hbW)
      refine NextE.go (Z := Kp b W.heap.size) (u := u96) hK (Kp.of_ext _ hx107) (fun _ h9 => (Kp.of_ext _ hx107).trans h9) ?_
      clear hK K
      (try simp only [Act.put, sA, sZ, sS])
      try clear hx107
      refine one (i := 11) (fun K hK => ?_)
      simp only [List.getElem_toArray, List.getElem_cons_succ, List.getElem_cons_zero]
      go_simp
      go_at_call 96
      refine (mnode_any _ _ _ _ _ _).mono ?_
      rintro e u115 ⟨rfl, hx116⟩
      simp only []
      have HSR118 := Lib.hid (HSR111.out.mv (Mv.of_ext hx116) hg98b)
      have HNX119 := Lib.hid (HNX112.out.mv (Mv.of_ext hx116) hgb6)
      have HHT120 := Lib.hid (HHT113.out.mv (Mv.of_ext hx116) hbW)
      have HHT121 := Lib.hid (HHT114.out.mv (Mv.of_ext hx116) hbW)
      have HRW122 := Lib.hid (fun k n s => (HN110.out k n s).mv (Mv.of_ext hx116) hbW)
      have HA117 := Lib.hid (HA109.out.ext hx116)
      refine NextE.go (Z := Kp b W.heap.size) (u := u106) hK (Kp.of_ext _ hx116) (fun _ h9 => (Kp.of_ext _ hx116).trans h9) ?_
      clear hK K
      (try simp only [Act.put, sA, sZ, sS])
      try clear hx116
      refine one (i := 12) (fun K hK => ?_)
      obtain ⟨_, z0, z1, z2, z3, z4, z5, z6, z7⟩ := HA117.out.nx.nb
      simp only [List.getElem_toArray, List.getElem_cons_succ, List.getElem_cons_zero]
      go_simp
      refine hK.out _ _ ⟨fun _ => trivial, Kp.set4 _ _ _ _⟩ (fun _ => ?_)
      clear hK K
      (try simp only [Act.put, sA, sZ, sS])
      refine wpE_done (by kernel_rfl) ?_ _
      go_wp2_with fail
      refine bodyPost_ret (v := .agg #[.int .i64 (6), .int .i64 0, .string S105, .slice (some ⟨g108, 0, none⟩) 2 2]) (by simp [results, Tryz.results98, go_sem, *]) rfl ?_
      exact HA117.out.fin (by have := FN_up h1; omega) ⟨6, 0, S105, some ⟨g108, 0, none⟩, 2, 2⟩ (.nd (6) 0 s104 [t1, t92]) (by rw [ES105.out]; exact HRW122.out _ 0 s104) (.up h1 (.bin2 ((by decide : ∀ s ∈ ([wAnd, wOr] : List (List UInt8)), 1 ≤ lvOf s) _ Ms104.out) HGt1.out.1 HGt92.out.1) (by have := HGt92.out.2; have := HGt1.out.2; simp only [tszs]; omega))
     ·skip
      simp only [List.getElem_toArray, List.getElem_cons_succ, List.getElem_cons_zero]
      go_simp
      have hx124 : Ext u88 (u88.alloc (.cells #[.int .i64 d1.k, .int .i64 d1.n, .string d1.s, .slice d1.A d1.m d1.c, .int .i64 d91.k, .int .i64 d91.n, .string d91.s, .slice d91.A d91.m d91.c] 31)) := (Ext.refl _).alloc _
      have hn9 : ∀ (k n : Int) (s : List UInt8), HT W (u88.alloc (.cells #[.int .i64 d1.k, .int .i64 d1.n, .string d1.s, .slice d1.A d1.m d1.c, .int .i64 d91.k, .int .i64 d91.n, .string d91.s, .slice d91.A d91.m d91.c] 31)) ⟨k, n, bs s, some ⟨u88.heap.size, 0, none⟩, 2, 2⟩ (.nd k n s [t1, t92]) := fun k n s => HT.node HA90.out.sz k n s [d1, d91] [t1, t92] #[.int .i64 d1.k, .int .i64 d1.n, .string d1.s, .slice d1.A d1.m d1.c, .int .i64 d91.k, .int .i64 d91.n, .string d91.s, .slice d91.A d91.m d91.c] 2 rfl rfl (HT.kids2 HHT95.out HR93.out)
      obtain ⟨u123, hu9⟩ : ∃ x, x = u88.alloc (.cells #[.int .i64 d1.k, .int .i64 d1.n, .string d1.s, .slice d1.A d1.m d1.c, .int .i64 d91.k, .int .i64 d91.n, .string d91.s, .slice d91.A d91.m d91.c] 31) := ⟨_, rfl⟩
      obtain ⟨g125, hg125⟩ : ∃ x, x = u88.heap.size := ⟨_, rfl⟩
      have hg125b : g125 ≠ b := by have := HA90.out.sz; omega
      have hg125W : g125 ≠ W.heap.size := by have := HA90.out.sz; omega
      rw [← hu9, ← hg125] at hn9
      rw [← hu9] at hx124 ⊢
      rw [← hg125]
      have HA126 := Lib.hid (HA90.out.ext hx124)
      have HN127 := Lib.hid hn9
      clear hu9 hn9 hg125
      have HNX128 := Lib.hid (HNX94.out.mv (Mv.of_ext hx124) hgb6)
      have HHT129 := Lib.hid (HHT95.out.mv (Mv.of_ext hx124) hbW)
      have HHT130 := Lib.hid (HR93.out.mv (Mv.of_ext hx124) hbW)
      refine NextE.go (Z := Kp b W.heap.size) (u := u88) hK (Kp.of_ext _ hx124) (fun _ h9 => (Kp.of_ext _ hx124).trans h9) ?_
      clear hK K
      (try simp only [Act.put, sA, sZ, sS])
      try clear hx124
      refine one (i := 0) (fun K hK => ?_)
      simp only [List.getElem_toArray, List.getElem_cons_zero]
      go_simp
      have hx132 : Ext u123 (u123.alloc (.cells #[.string ⟨#[97, 110, 100]⟩, .string ⟨#[111, 114]⟩] 9)) := (Ext.refl _).alloc _
      have hn9 := SR.new u123 [wAnd, wOr] #[.string ⟨#[97, 110, 100]⟩, .string ⟨#[111, 114]⟩] rfl
      obtain ⟨u131, hu9⟩ : ∃ x, x = u123.alloc (.cells #[.string ⟨#[97, 110, 100]⟩, .string ⟨#[111, 114]⟩] 9) := ⟨_, rfl⟩
      obtain ⟨g133, hg133⟩ : ∃ x, x = u123.heap.size := ⟨_, rfl⟩
      have hg133b : g133 ≠ b := by have := HA126.out.sz; omega
      have hg133W : g133 ≠ W.heap.size := by have := HA126.out.sz; omega
      rw [← hu9, ← hg133] at hn9
      rw [← hu9] at hx132 ⊢
      rw [← hg133]
      have HA134 := Lib.hid (HA126.out.ext hx132)
      have HN135 := Lib.hid hn9
      clear hu9 hn9 hg133
      have HNX136 := Lib.hid (HNX128.out.mv (Mv.of_ext hx132) hgb6)
      have HHT137 := Lib.hid (HHT129.out.mv (Mv.of_ext hx132) hbW)
      have HHT138 := Lib.hid (HHT130.out.mv (Mv.of_ext hx132) hbW)
      have HRW139 := Lib.hid (fun k n s => (HN127.out k n s).mv (Mv.of_ext hx132) hbW)
      obtain ⟨s140, hs140⟩ : ∃ s, ([wAnd, wOr] : List (List UInt8))[k47]? = some s := ⟨_, List.getElem?_eq_getElem (by simpa using hk47)⟩
      have Ms140 := Lib.hid (List.mem_of_getElem? hs140)
      have Gs140 := Lib.hid hs140
      obtain ⟨S141, hS141⟩ : ∃ S, S = bs s140 := ⟨_, rfl⟩
      have ES141 := Lib.hid hS141
      clear hs140 hS141
      refine NextE.go (Z := Kp b W.heap.size) (u := u123) hK (Kp.of_ext _ hx132) (fun _ h9 => (Kp.of_ext _ hx132).trans h9) ?_
      clear hK K
      (try simp only [Act.put, sA, sZ, sS])
      try clear hx132
      refine tkA (i := 3) (d := some 41) (v := ?_) (Kp.refl _ _ _) ?_ ?_; rotate_left
      ·(intro w9 hT9; clear hT9; go_simp; try with_reducible rfl)
      (try simp only [Act.put, sA, sZ, sS])
      refine tkA (i := 4) (d := some 42) (v := ?_) (Kp.refl _ _ _) ?_ ?_; rotate_left
      ·(intro w9 hT9; have q9 := (HN135.out.kp hT9 hg133b hg133W).at_ _ _ Gs140.out; rw [← ES141.out] at q9; go_simp; try with_reducible rfl)
      (try simp only [Act.put, sA, sZ, sS])
      refine one (i := 11) (fun K hK => ?_)
      simp only [List.getElem_toArray, List.getElem_cons_succ, List.getElem_cons_zero]
      go_simp
      go_at_call 96
      refine (mnode_any _ _ _ _ _ _).mono ?_
      rintro e u142 ⟨rfl, hx143⟩
      simp only []
      have HSR145 := Lib.hid (HN135.out.mv (Mv.of_ext hx143) hg133b)
      have HNX146 := Lib.hid (HNX136.out.mv (Mv.of_ext hx143) hgb6)
      have HHT147 := Lib.hid (HHT137.out.mv (Mv.of_ext hx143) hbW)
      have HHT148 := Lib.hid (HHT138.out.mv (Mv.of_ext hx143) hbW)
      have HRW149 := Lib.hid (fun k n s => (HRW139.out k n s).mv (Mv.of_ext hx143) hbW)
      have HA144 := Lib.hid (HA134.out.ext hx143)
      refine NextE.go (Z := Kp b W.heap.size) (u := u131) hK (Kp.of_ext _ hx143) (fun _ h9 => (Kp.of_ext _ hx143).trans h9) ?_
      clear hK K
      (try simp only [Act.put, sA, sZ, sS])
      try clear hx143
      refine one (i := 12) (fun K hK => ?_)
      obtain ⟨_, z0, z1, z2, z3, z4, z5, z6, z7⟩ := HA144.out.nx.nb
      simp only [List.getElem_toArray, List.getElem_cons_succ, List.getElem_cons_zero]
      go_simp
      refine hK.out _ _ ⟨fun _ => trivial, Kp.set4 _ _ _ _⟩ (fun _ => ?_)
      clear hK K
      (try simp only [Act.put, sA, sZ, sS])
      refine wpE_done (by kernel_rfl) ?_ _
      go_wp2_with fail
      refine bodyPost_ret (v := .agg #[.int .i64 (6), .int .i64 0, .string S141, .slice (some ⟨g125, 0, none⟩) 2 2]) (by simp [results, Tryz.results98, go_sem, *]) rfl ?_
      exact HA144.out.fin (by have := FN_up h1; omega) ⟨6, 0, S141, some ⟨g125, 0, none⟩, 2, 2⟩ (.nd (6) 0 s140 [t1, t92]) (by rw [ES141.out]; exact HRW149.out _ 0 s140) (.up h1 (.bin2 ((by decide : ∀ s ∈ ([wAnd, wOr] : List (List UInt8)), 1 ≤ lvOf s) _ Ms140.out) HGt1.out.1 HGt92.out.1) (by have := HGt92.out.2; have := HGt1.out.2; simp only [tszs]; omega))
  ·have h1I : (1 : Int) ≤ (deep : Int) := by omega
   have hwd : IntKind.i64.wrap ((deep : Int) - 1) = (deep : Int) - 1 := IntWalk.i64_in _ (by omega)
   go_upto_region 14 with (first | (go_at_call 99; refine (HS99.out h1 _ _ HA.out (by have := FN_up h1; omega)).mono ?_; rintro e u1 hp; obtain ⟨d1, t1, rfl, hr9, hg9, ha9, hm1⟩ := HA.out.sub hp; have HA1 := Lib.hid ha9; have HR1 := Lib.hid hr9; have HGt1 := Lib.hid hg9; clear hp ha9 hr9 hg9))
   have hx6 : Ext u1 (u1.alloc (.cells #[.int .i64 d1.k, .int .i64 d1.n, .string d1.s, .slice d1.A d1.m d1.c] 31)) := (Ext.refl _).alloc _
   have hc6 : NX (u1.alloc (.cells #[.int .i64 d1.k, .int .i64 d1.n, .string d1.s, .slice d1.A d1.m d1.c] 31)) u1.heap.size d1.k d1.n d1.s (.slice d1.A d1.m d1.c) := heap_alloc_new _ _
   generalize u1.alloc (.cells #[.int .i64 d1.k, .int .i64 d1.n, .string d1.s, .slice d1.A d1.m d1.c] 31) = w6 at *
   have hgb6 : u1.heap.size ≠ b := by have := HA1.out.sz; omega
   have hgW6 : u1.heap.size ≠ W.heap.size := by have := HA1.out.sz; omega
   generalize u1.heap.size = g6 at *
   have HC6 := Lib.hid hc6
   have HB6 := Lib.hid (HA1.out.ext hx6)
   have HR6 := Lib.hid (HR1.out.mv (Mv.of_ext hx6) hbW)
   clear hc6 hx6
   refine wp_region_E (fun _ => True) (fun X => Kp b W.heap.size w6 X) (fun _ => true) (by kernel_rfl) ?_
   obtain ⟨u1, hu9, hx9⟩ : ∃ x, w6.drew = x ∧ Ext w6 x := ⟨_, rfl, (Ext.refl _).drew⟩
   rw [hu9]
   clear hu9
   have HNX3 := Lib.hid (HC6.out.mv (Mv.of_ext hx9) hgb6)
   have HHT4 := Lib.hid (HR6.out.mv (Mv.of_ext hx9) hbW)
   have HA2 := Lib.hid (HB6.out.ext hx9)
   refine wpE_strong (T' := fun X => Kp b W.heap.size u1 X) (fun _ h9 => (Kp.of_ext _ hx9).trans h9) _ _ _ _ ?_
   clear hx9
   refine tkA (i := 0) (d := some 56) (v := ?_) (Kp.refl _ _ _) ?_ ?_; rotate_left
   ·(intro w9 hT9; clear hT9; go_simp; try with_reducible rfl)
   (try simp only [Act.put, sA, sZ, sS])
   refine tkA (i := 3) (d := some 59) (v := ?_) (Kp.refl _ _ _) ?_ ?_; rotate_left
   ·(intro w9 hT9; obtain ⟨_, q0, q1, q2, q3, _, _, _, _⟩ := (HNX3.out.kp hT9 hgb6 hgW6).nb; go_simp; try with_reducible rfl)
   (try simp only [Act.put, sA, sZ, sS])
   refine tkA (i := 4) (d := some 60) (v := ?_) (Kp.refl _ _ _) ?_ ?_; rotate_left
   ·(intro w9 hT9; clear hT9; go_simp; try with_reducible rfl)
   (try simp only [Act.put, sA, sZ, sS])
   refine tkA (i := 5) (d := some 61) (v := ?_) (Kp.refl _ _ _) ?_ ?_; rotate_left
   ·(intro w9 hT9; clear hT9; go_simp; try with_reducible rfl)
   (try simp only [Act.put, sA, sZ, sS])
   refine tkA (i := 6) (d := some 62) (v := ?_) (Kp.refl _ _ _) ?_ ?_; rotate_left
   ·(intro w9 hT9; clear hT9; go_simp; try with_reducible rfl)
   (try simp only [Act.put, sA, sZ, sS])
   refine one (i := 1) (fun K hK => ?_)
   simp only [List.getElem_toArray, List.getElem_cons_succ, List.getElem_cons_zero]
   go_simp
   go_at_call 44
   refine (HA2.out.nextI (by have := FN_up h1; omega) 6 6 rfl (by decide) (by decide)).mono ?_
   rintro e u6 ⟨k5, rfl, hk5, ha9, hm7⟩
   have HA8 := Lib.hid ha9
   clear ha9
   simp only []
   have hk5I : (k5 : Int) < 6 := by omega
   have hk5J : (0 : Int) ≤ (k5 : Int) := Int.natCast_nonneg _
   have HNX9 := Lib.hid (HNX3.out.mv hm7 hgb6)
   have HHT10 := Lib.hid (HHT4.out.mv hm7 hbW)
   refine NextE.go (Z := Kp b W.heap.size) (u := u1) hK (Kp.of_mv _ hm7) (fun _ h9 => (Kp.of_mv _ hm7).trans h9) ?_
   clear hK K
   (try simp only [Act.put, sA, sZ, sS])
   try clear hm7
   refine one (i := 2) (fun K hK => ?_)
   simp only [gA, gS, gZ]
   go_simp
   go_at_call 136
   refine (compared_any k5 hk5 _).mono ?_
   rintro e u11 ⟨s14, hm9, rfl, hx12⟩
   simp only []
   have Ms14 := Lib.hid hm9
   clear hm9
   obtain ⟨S15, hS15⟩ : ∃ S, S = bs s14 := ⟨_, rfl⟩
   rw [← hS15]
   have ES15 := Lib.hid hS15
   clear hS15
   have HNX16 := Lib.hid (HNX9.out.mv (Mv.of_ext hx12) hgb6)
   have HHT17 := Lib.hid (HHT10.out.mv (Mv.of_ext hx12) hbW)
   have HA13 := Lib.hid (HA8.out.ext hx12)
   refine NextE.go (Z := Kp b W.heap.size) (u := u6) hK (Kp.of_ext _ hx12) (fun _ h9 => (Kp.of_ext _ hx12).trans h9) ?_
   clear hK K
   (try simp only [Act.put, sA, sZ, sS])
   try clear hx12
   refine one (i := 7) (fun K hK => ?_)
   simp only [List.getElem_toArray, List.getElem_cons_succ, List.getElem_cons_zero]
   go_simp
   go_at_call 99
   refine (HS99.out h1 _ _ HA13.out (by have := FN_up h1; omega)).mono ?_
   rintro e u18 hp9
   obtain ⟨d21, t22, rfl, hr9, hg9, ha9, hm19⟩ := HA13.out.sub hp9
   have HA20 := Lib.hid ha9
   have HR23 := Lib.hid hr9
   have HGt22 := Lib.hid hg9
   clear hp9 ha9 hr9 hg9
   simp only []
   have HNX24 := Lib.hid (HNX16.out.mv hm19 hgb6)
   have HHT25 := Lib.hid (HHT17.out.mv hm19 hbW)
   refine NextE.go (Z := Kp b W.heap.size) (u := u11) hK (Kp.of_mv _ hm19) (fun _ h9 => (Kp.of_mv _ hm19).trans h9) ?_
   clear hK K
   (try simp only [Act.put, sA, sZ, sS])
   try clear hm19
   refine one (i := 8) (fun K hK => ?_)
   simp only [List.getElem_toArray, List.getElem_cons_succ, List.getElem_cons_zero]
   go_simp
   have hx27 : Ext u18 (u18.alloc (.cells #[.int .i64 d1.k, .int .i64 d1.n, .string d1.s, .slice d1.A d1.m d1.c, .int .i64 d21.k, .int .i64 d21.n, .string d21.s, .slice d21.A d21.m d21.c] 31)) := (Ext.refl _).alloc _
   have hn9 : ∀ (k n : Int) (s : List UInt8), HT W (u18.alloc (.cells #[.int .i64 d1.k, .int .i64 d1.n, .string d1.s, .slice d1.A d1.m d1.c, .int .i64 d21.k, .int .i64 d21.n, .string d21.s, .slice d21.A d21.m d21.c] 31)) ⟨k, n, bs s, some ⟨u18.heap.size, 0, none⟩, 2, 2⟩ (.nd k n s [t1, t22]) := fun k n s => HT.node HA20.out.sz k n s [d1, d21] [t1, t22] #[.int .i64 d1.k, .int .i64 d1.n, .string d1.s, .slice d1.A d1.m d1.c, .int .i64 d21.k, .int .i64 d21.n, .string d21.s, .slice d21.A d21.m d21.c] 2 rfl rfl (HT.kids2 HHT25.out HR23.out)
   obtain ⟨u26, hu9⟩ : ∃ x, x = u18.alloc (.cells #[.int .i64 d1.k, .int .i64 d1.n, .string d1.s, .slice d1.A d1.m d1.c, .int .i64 d21.k, .int .i64 d21.n, .string d21.s, .slice d21.A d21.m d21.c] 31) := ⟨_, rfl⟩
   obtain ⟨g28, hg28⟩ : ∃ x, x = u18.heap.size := ⟨_, rfl⟩
   have hg28b : g28 ≠ b := by have := HA20.out.sz; omega
   have hg28W : g28 ≠ W.heap.size := by have := HA20.out.sz; omega
   rw [← hu9, ← hg28] at hn9
   rw [← hu9] at hx27 ⊢
   rw [← hg28]
   have HA29 := Lib.hid (HA20.out.ext hx27)
   have HN30 := Lib.hid hn9
   clear hu9 hn9 hg28
   have HNX31 := Lib.hid (HNX24.out.mv (Mv.of_ext hx27) hgb6)
   have HHT32 := Lib.hid (HHT25.out.mv (Mv.of_ext hx27) hbW)
   have HHT33 := Lib.hid (HR23.out.mv (Mv.of_ext hx27) hbW)
   refine NextE.go (Z := Kp b W.heap.size) (u := u18) hK (Kp.of_ext _ hx27) (fun _ h9 => (Kp.of_ext _ hx27).trans h9) ?_
   clear hK K
   (try simp only [Act.put, sA, sZ, sS])
   try clear hx27
   refine one (i := 9) (fun K hK => ?_)
   simp only [List.getElem_toArray, List.getElem_cons_succ, List.getElem_cons_zero]
   go_simp
   go_at_call 96
   refine (mnode_any _ _ _ _ _ _).mono ?_
   rintro e u34 ⟨rfl, hx35⟩
   simp only []
   have HNX37 := Lib.hid (HNX31.out.mv (Mv.of_ext hx35) hgb6)
   have HHT38 := Lib.hid (HHT32.out.mv (Mv.of_ext hx35) hbW)
   have HHT39 := Lib.hid (HHT33.out.mv (Mv.of_ext hx35) hbW)
   have HRW40 := Lib.hid (fun k n s => (HN30.out k n s).mv (Mv.of_ext hx35) hbW)
   have HA36 := Lib.hid (HA29.out.ext hx35)
   refine NextE.go (Z := Kp b W.heap.size) (u := u26) hK (Kp.of_ext _ hx35) (fun _ h9 => (Kp.of_ext _ hx35).trans h9) ?_
   clear hK K
   (try simp only [Act.put, sA, sZ, sS])
   try clear hx35
   refine one (i := 10) (fun K hK => ?_)
   obtain ⟨_, z0, z1, z2, z3, z4, z5, z6, z7⟩ := HA36.out.nx.nb
   simp only [List.getElem_toArray, List.getElem_cons_succ, List.getElem_cons_zero]
   go_simp
   refine hK.out _ _ ⟨fun _ => trivial, Kp.set4 _ _ _ _⟩ (fun _ => ?_)
   clear hK K
   (try simp only [Act.put, sA, sZ, sS])
   refine wpE_done (by kernel_rfl) ?_ _
   go_wp2_with fail
   refine bodyPost_ret (v := .agg #[.int .i64 (6), .int .i64 0, .string S15, .slice (some ⟨g28, 0, none⟩) 2 2]) (by simp [results, Tryz.results98, go_sem, *]) rfl ?_
   exact HA36.out.fin (by have := FN_up h1; omega) ⟨6, 0, S15, some ⟨g28, 0, none⟩, 2, 2⟩ (.nd (6) 0 s14 [t1, t22]) (by rw [ES15.out]; exact HRW40.out _ 0 s14) (.up h1 (.bin2 ((by decide : ∀ s ∈ cmpOps, 1 ≤ lvOf s) _ Ms14.out) HGt1.out.1 HGt22.out.1) (by have := HGt22.out.2; have := HGt1.out.2; simp only [tszs]; omega))
  ·have b0 : (kk == 0) = false := beq_eq_false_iff_ne.2 (by omega)
   have b1 : (kk == 1) = false := beq_eq_false_iff_ne.2 (by omega)
   have b2 : (kk == 2) = false := beq_eq_false_iff_ne.2 (by omega)
   have b3 : (kk == 3) = false := beq_eq_false_iff_ne.2 (by omega)
   have h1I : (1 : Int) ≤ (deep : Int) := by omega
   have hwd : IntKind.i64.wrap ((deep : Int) - 1) = (deep : Int) - 1 := IntWalk.i64_in _ (by omega)
   go_upto_region 16 with (first | (go_at_call 137; refine (HS137.out h1 _ _ HA.out (by have := FN_up h1; omega)).mono ?_; rintro e u1 hp; obtain ⟨d1, t1, rfl, hr9, hg9, ha9, hm1⟩ := HA.out.sub hp; have HA1 := Lib.hid ha9; have HR1 := Lib.hid hr9; have HGt1 := Lib.hid hg9; clear hp ha9 hr9 hg9))
   have hx6 : Ext u1 (u1.alloc (.cells #[.int .i64 d1.k, .int .i64 d1.n, .string d1.s, .slice d1.A d1.m d1.c] 31)) := (Ext.refl _).alloc _
   have hc6 : NX (u1.alloc (.cells #[.int .i64 d1.k, .int .i64 d1.n, .string d1.s, .slice d1.A d1.m d1.c] 31)) u1.heap.size d1.k d1.n d1.s (.slice d1.A d1.m d1.c) := heap_alloc_new _ _
   generalize u1.alloc (.cells #[.int .i64 d1.k, .int .i64 d1.n, .string d1.s, .slice d1.A d1.m d1.c] 31) = w6 at *
   have hgb6 : u1.heap.size ≠ b := by have := HA1.out.sz; omega
   have hgW6 : u1.heap.size ≠ W.heap.size := by have := HA1.out.sz; omega
   generalize u1.heap.size = g6 at *
   have HC6 := Lib.hid hc6
   have HB6 := Lib.hid (HA1.out.ext hx6)
   have HR6 := Lib.hid (HR1.out.mv (Mv.of_ext hx6) hbW)
   clear hc6 hx6
   refine wp_region_E (fun _ => True) (fun X => Kp b W.heap.size w6 X) (fun _ => true) (by kernel_rfl) ?_
   obtain ⟨u1, hu9, hx9⟩ : ∃ x, w6.drew = x ∧ Ext w6 x := ⟨_, rfl, (Ext.refl _).drew⟩
   rw [hu9]
   clear hu9
   have HNX3 := Lib.hid (HC6.out.mv (Mv.of_ext hx9) hgb6)
   have HHT4 := Lib.hid (HR6.out.mv (Mv.of_ext hx9) hbW)
   have HA2 := Lib.hid (HB6.out.ext hx9)
   refine wpE_strong (T' := fun X => Kp b W.heap.size u1 X) (fun _ h9 => (Kp.of_ext _ hx9).trans h9) _ _ _ _ ?_
   clear hx9
   refine tkA (i := 0) (d := some 70) (v := ?_) (Kp.refl _ _ _) ?_ ?_; rotate_left
   ·(intro w9 hT9; clear hT9; go_simp; try with_reducible rfl)
   (try simp only [Act.put, sA, sZ, sS])
   refine tkA (i := 3) (d := some 73) (v := ?_) (Kp.refl _ _ _) ?_ ?_; rotate_left
   ·(intro w9 hT9; obtain ⟨_, q0, q1, q2, q3, _, _, _, _⟩ := (HNX3.out.kp hT9 hgb6 hgW6).nb; go_simp; try with_reducible rfl)
   (try simp only [Act.put, sA, sZ, sS])
   refine tkA (i := 4) (d := some 74) (v := ?_) (Kp.refl _ _ _) ?_ ?_; rotate_left
   ·(intro w9 hT9; clear hT9; go_simp; try with_reducible rfl)
   (try simp only [Act.put, sA, sZ, sS])
   refine tkA (i := 5) (d := some 75) (v := ?_) (Kp.refl _ _ _) ?_ ?_; rotate_left
   ·(intro w9 hT9; clear hT9; go_simp; try with_reducible rfl)
   (try simp only [Act.put, sA, sZ, sS])
   refine tkA (i := 6) (d := some 76) (v := ?_) (Kp.refl _ _ _) ?_ ?_; rotate_left
   ·(intro w9 hT9; clear hT9; go_simp; try with_reducible rfl)
   (try simp only [Act.put, sA, sZ, sS])
   refine one (i := 1) (fun K hK => ?_)
   simp only [List.getElem_toArray, List.getElem_cons_succ, List.getElem_cons_zero]
   go_simp
   go_at_call 44
   refine (HA2.out.nextI (by have := FN_up h1; omega) 6 6 rfl (by decide) (by decide)).mono ?_
   rintro e u6 ⟨k5, rfl, hk5, ha9, hm7⟩
   have HA8 := Lib.hid ha9
   clear ha9
   simp only []
   have hk5I : (k5 : Int) < 6 := by omega
   have hk5J : (0 : Int) ≤ (k5 : Int) := Int.natCast_nonneg _
   have HNX9 := Lib.hid (HNX3.out.mv hm7 hgb6)
   have HHT10 := Lib.hid (HHT4.out.mv hm7 hbW)
   refine NextE.go (Z := Kp b W.heap.size) (u := u1) hK (Kp.of_mv _ hm7) (fun _ h9 => (Kp.of_mv _ hm7).trans h9) ?_
   clear hK K
   (try simp only [Act.put, sA, sZ, sS])
   try clear hm7
   refine one (i := 2) (fun K hK => ?_)
   simp only [gA, gS, gZ]
   go_simp
   go_at_call 136
   refine (compared_any k5 hk5 _).mono ?_
   rintro e u11 ⟨s14, hm9, rfl, hx12⟩
   simp only []
   have Ms14 := Lib.hid hm9
   clear hm9
   obtain ⟨S15, hS15⟩ : ∃ S, S = bs s14 := ⟨_, rfl⟩
   rw [← hS15]
   have ES15 := Lib.hid hS15
   clear hS15
   have HNX16 := Lib.hid (HNX9.out.mv (Mv.of_ext hx12) hgb6)
   have HHT17 := Lib.hid (HHT10.out.mv (Mv.of_ext hx12) hbW)
   have HA13 := Lib.hid (HA8.out.ext hx12)
   refine NextE.go (Z := Kp b W.heap.size) (u := u6) hK (Kp.of_ext _ hx12) (fun _ h9 => (Kp.of_ext _ hx12).trans h9) ?_
   clear hK K
   (try simp only [Act.put, sA, sZ, sS])
   try clear hx12
   refine one (i := 7) (fun K hK => ?_)
   simp only [List.getElem_toArray, List.getElem_cons_succ, List.getElem_cons_zero]
   go_simp
   go_at_call 137
   refine (HS137.out h1 _ _ HA13.out (by have := FN_up h1; omega)).mono ?_
   rintro e u18 hp9
   obtain ⟨d21, t22, rfl, hr9, hg9, ha9, hm19⟩ := HA13.out.sub hp9
   have HA20 := Lib.hid ha9
   have HR23 := Lib.hid hr9
   have HGt22 := Lib.hid hg9
   clear hp9 ha9 hr9 hg9
   simp only []
   have HNX24 := Lib.hid (HNX16.out.mv hm19 hgb6)
   have HHT25 := Lib.hid (HHT17.out.mv hm19 hbW)
   refine NextE.go (Z := Kp b W.heap.size) (u := u11) hK (Kp.of_mv _ hm19) (fun _ h9 => (Kp.of_mv _ hm19).trans h9) ?_
   clear hK K
   (try simp only [Act.put, sA, sZ, sS])
   try clear hm19
   refine one (i := 8) (fun K hK => ?_)
   simp only [List.getElem_toArray, List.getElem_cons_succ, List.getElem_cons_zero]
   go_simp
   have hx27 : Ext u18 (u18.alloc (.cells #[.int .i64 d1.k, .int .i64 d1.n, .string d1.s, .slice d1.A d1.m d1.c, .int .i64 d21.k, .int .i64 d21.n, .string d21.s, .slice d21.A d21.m d21.c] 31)) := (Ext.refl _).alloc _
   have hn9 : ∀ (k n : Int) (s : List UInt8), HT W (u18.alloc (.cells #[.int .i64 d1.k, .int .i64 d1.n, .string d1.s, .slice d1.A d1.m d1.c, .int .i64 d21.k, .int .i64 d21.n, .string d21.s, .slice d21.A d21.m d21.c] 31)) ⟨k, n, bs s, some ⟨u18.heap.size, 0, none⟩, 2, 2⟩ (.nd k n s [t1, t22]) := fun k n s => HT.node HA20.out.sz k n s [d1, d21] [t1, t22] #[.int .i64 d1.k, .int .i64 d1.n, .string d1.s, .slice d1.A d1.m d1.c, .int .i64 d21.k, .int .i64 d21.n, .string d21.s, .slice d21.A d21.m d21.c] 2 rfl rfl (HT.kids2 HHT25.out HR23.out)
   obtain ⟨u26, hu9⟩ : ∃ x, x = u18.alloc (.cells #[.int .i64 d1.k, .int .i64 d1.n, .string d1.s, .slice d1.A d1.m d1.c, .int .i64 d21.k, .int .i64 d21.n, .string d21.s, .slice d21.A d21.m d21.c] 31) := ⟨_, rfl⟩
   obtain ⟨g28, hg28⟩ : ∃ x, x = u18.heap.size := ⟨_, rfl⟩
   have hg28b : g28 ≠ b := by have := HA20.out.sz; omega
   have hg28W : g28 ≠ W.heap.size := by have := HA20.out.sz; omega
   rw [← hu9, ← hg28] at hn9
   rw [← hu9] at hx27 ⊢
   rw [← hg28]
   have HA29 := Lib.hid (HA20.out.ext hx27)
   have HN30 := Lib.hid hn9
   clear hu9 hn9 hg28
   have HNX31 := Lib.hid (HNX24.out.mv (Mv.of_ext hx27) hgb6)
   have HHT32 := Lib.hid (HHT25.out.mv (Mv.of_ext hx27) hbW)
   have HHT33 := Lib.hid (HR23.out.mv (Mv.of_ext hx27) hbW)
   refine NextE.go (Z := Kp b W.heap.size) (u := u18) hK (Kp.of_ext _ hx27) (fun _ h9 => (Kp.of_ext _ hx27).trans h9) ?_
   clear hK K
   (try simp only [Act.put, sA, sZ, sS])
   try clear hx27
   refine one (i := 9) (fun K hK => ?_)
   simp only [List.getElem_toArray, List.getElem_cons_succ, List.getElem_cons_zero]
   go_simp
   go_at_call 96
   refine (mnode_any _ _ _ _ _ _).mono ?_
   rintro e u34 ⟨rfl, hx35⟩
   simp only []
   have HNX37 := Lib.hid (HNX31.out.mv (Mv.of_ext hx35) hgb6)
   have HHT38 := Lib.hid (HHT32.out.mv (Mv.of_ext hx35) hbW)
   have HHT39 := Lib.hid (HHT33.out.mv (Mv.of_ext hx35) hbW)
   have HRW40 := Lib.hid (fun k n s => (HN30.out k n s).mv (Mv.of_ext hx35) hbW)
   have HA36 := Lib.hid (HA29.out.ext hx35)
   refine NextE.go (Z := Kp b W.heap.size) (u := u26) hK (Kp.of_ext _ hx35) (fun _ h9 => (Kp.of_ext _ hx35).trans h9) ?_
   clear hK K
   (try simp only [Act.put, sA, sZ, sS])
   try clear hx35
   refine one (i := 10) (fun K hK => ?_)
   obtain ⟨_, z0, z1, z2, z3, z4, z5, z6, z7⟩ := HA36.out.nx.nb
   simp only [List.getElem_toArray, List.getElem_cons_succ, List.getElem_cons_zero]
   go_simp
   refine hK.out _ _ ⟨fun _ => trivial, Kp.set4 _ _ _ _⟩ (fun _ => ?_)
   clear hK K
   (try simp only [Act.put, sA, sZ, sS])
   refine wpE_done (by kernel_rfl) ?_ _
   go_wp2_with fail
   refine bodyPost_ret (v := .agg #[.int .i64 (6), .int .i64 0, .string S15, .slice (some ⟨g28, 0, none⟩) 2 2]) (by simp [results, Tryz.results98, go_sem, *]) rfl ?_
   exact HA36.out.fin (by have := FN_up h1; omega) ⟨6, 0, S15, some ⟨g28, 0, none⟩, 2, 2⟩ (.nd (6) 0 s14 [t1, t22]) (by rw [ES15.out]; exact HRW40.out _ 0 s14) (.up h1 (.bin2 ((by decide : ∀ s ∈ cmpOps, 1 ≤ lvOf s) _ Ms14.out) HGt1.out.1 HGt22.out.1) (by have := HGt22.out.2; have := HGt1.out.2; simp only [tszs]; omega))
theorem ndb_all : ∀ (D deep : Nat), deep < D → deep ≤ 7 → MkOK 137 deep ∧ MkOK 99 deep ∧ MkOK 98 deep
 | 0, _, h, _ => by omega
 | D + 1, deep, _, hd => by
  have ih : 1 ≤ deep → MkOK 137 (deep - 1) ∧ MkOK 99 (deep - 1) ∧ MkOK 98 (deep - 1) := fun h1 => ndb_all D (deep - 1) (by omega) (by omega)
  exact ⟨num_step deep hd ih, date_step deep hd ih, bool_step deep hd ih⟩
end Go.Proofs.YtnpenepdechkjaaGreatDoor
