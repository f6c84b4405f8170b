/- The Maker's Date. -/
import Derived.Test.YtnpenepdechkjaaGreatDoorKg
import Derived.Test.YtnpenepdechkjaaGreatDoorVc
namespace Go.Proofs.YtnpenepdechkjaaGreatDoor
open Go Go.RowKit

set_option maxHeartbeats 2000000 in
set_option maxRecDepth 100000 in
theorem date_step (deep : Nat) (hd : deep ≤ 7) (ih : 1 ≤ deep → MkOK 137 (deep - 1) ∧ MkOK 99 (deep - 1) ∧ MkOK 98 (deep - 1)) : MkOK 99 deep := by
  intro W b A c l a hmb hA ha
  have ha0 := AS.begin hmb hA
  have hbW := hmb.lt
  have hFP := FN_pos deep
  have HS137 := Lib.hid (fun h1 => MkOK.sub (ih h1).1 h1 W b A c l hA)
  have HS99 := Lib.hid (fun h1 => MkOK.sub (ih h1).2.1 h1 W b A c l hA)
  have HS98 := Lib.hid (fun h1 => MkOK.sub (ih h1).2.2 h1 W b A c l hA)
  have hdI : (deep : Int) ≤ 7 := by omega
  clear ih
  go_enter Tryz.func99, Tryz.ntmps99
  go_upto_region 1 with (fail)
  have HA0 := Lib.hid ha0
  clear ha0 hmb
  generalize W.alloc (.cells #[.int .i64 0, .int .i64 0, .string ⟨#[]⟩, .slice none 0 0] 31) = w1 at *
  go_upto_region 2 with (first | (go_at_call 44; refine (HA0.out.nextI (by omega) 10 10 rfl (by decide) (by decide)).mono ?_; rintro e w2 ⟨k0, rfl, hk0, ha1, hm1⟩))
  have HA1 := Lib.hid ha1
  have hkI : (k0 : Int) < 10 := by omega
  clear ha1 hm1
  go_upto_if 15 with (first | (go_at_call 95; refine (HA1.out.done deep (by omega)).mono ?_; rintro e w3 ⟨v, rfl, hv, hx⟩; have HV := Lib.hid hv; have HX3 := Lib.hid hx; clear hv hx))
  go_cut [5] (fun s5 wx => ∃ kk : Int, s5 = .int .i64 kk ∧ ((kk = 0 ∨ kk = 1 ∨ kk = 2 ∨ kk = 3) ∨ (1 ≤ deep ∧ (kk = 4 ∨ kk = 5 ∨ kk = 6 ∨ (7 ≤ kk ∧ kk ≤ 9)))) ∧ Ext w2 wx)
  case first =>
    cases v
    case true =>
      go_wp2_with fail
      go_meet
      case rel => exact ⟨_, rfl, by omega, HX3.out⟩
    case false =>
      have h9 : deep ≠ 0 := fun h => Bool.noConfusion (HV.out h)
      clear HV
      go_wp2_with fail
      go_meet
      case rel => exact ⟨_, rfl, by omega, HX3.out⟩
  case rest =>
    obtain ⟨kk, rfl, hkk, hxc⟩ := hcut
    have HA := Lib.hid (HA1.out.ext hxc)
    clear hxc HA0 HA1 hkI hk0
    rcases hkk with (rfl | rfl | rfl | rfl) | ⟨h1, rfl | rfl | rfl | hk⟩
    · go_wp2_with (first | (go_at_call 96; refine (mnode_any _ _ _ _ _ _).mono ?_; rintro e u2 ⟨rfl, hx3⟩; have HA3 := Lib.hid (HA.out.ext hx3); obtain ⟨_, z0, z1, z2, z3, z4, z5, z6, z7⟩ := HA3.out.nx.nb))
      refine bodyPost_ret (v := .agg #[.int .i64 4, .int .i64 0, .string ⟨#[100, 97, 121]⟩, .slice none 0 0]) (by simp [results, Tryz.results99, go_sem, *]) rfl ?_
      exact HA3.out.fin (by omega) ⟨4, 0, ⟨#[100, 97, 121]⟩, none, 0, 0⟩ (.nd 4 0 wDay []) (HT.leaf _ _ 4 0 wDay) (.leaf (.field _ _ (by decide)))
    · go_wp2_with (first | (go_at_call 96; refine (mnode_any _ _ _ _ _ _).mono ?_; rintro e u2 ⟨rfl, hx3⟩; have HA3 := Lib.hid (HA.out.ext hx3); obtain ⟨_, z0, z1, z2, z3, z4, z5, z6, z7⟩ := HA3.out.nx.nb))
      refine bodyPost_ret (v := .agg #[.int .i64 4, .int .i64 0, .string ⟨#[100, 97, 121]⟩, .slice none 0 0]) (by simp [results, Tryz.results99, go_sem, *]) rfl ?_
      exact HA3.out.fin (by omega) ⟨4, 0, ⟨#[100, 97, 121]⟩, none, 0, 0⟩ (.nd 4 0 wDay []) (HT.leaf _ _ 4 0 wDay) (.leaf (.field _ _ (by decide)))
    · go_upto_region 9 with (fail)
      have hx2 : Ext wc (wc.alloc (.cells #[.string ⟨#[100, 97, 121]⟩, .string ⟨#[115, 101, 114, 118, 101, 100]⟩] 9)) := (Ext.refl _).alloc _
      have hsr := SR.new wc [wDay, wServed] #[.string ⟨#[100, 97, 121]⟩, .string ⟨#[115, 101, 114, 118, 101, 100]⟩] rfl
      have hgb : wc.heap.size ≠ b := by have := HA.out.sz; omega
      have HA2 := Lib.hid (HA.out.ext hx2)
      go_wp2_with (first
        | (go_at_call 44; refine (HA2.out.nextI (by omega) 2 2 rfl (by decide) (by decide)).mono ?_; rintro e u1 ⟨k1, rfl, hk1, ha1, hm1⟩; have HA1 := Lib.hid ha1; have hk1I : (k1 : Int) < 2 := by omega
           obtain ⟨s1, hs1⟩ : ∃ s, ([wDay, wServed] : List (List UInt8))[k1]? = some s := ⟨_, List.getElem?_eq_getElem (by simpa using hk1)⟩
           have M1 := Lib.hid (List.mem_of_getElem? hs1)
           have q9 := (hsr.mv hm1 hgb).at_ _ _ hs1
           obtain ⟨S1, hS1⟩ : ∃ S, S = bs s1 := ⟨_, rfl⟩
           rw [← hS1] at q9
           have ES1 := Lib.hid hS1
           clear hS1 hs1 hsr ha1 hm1)
        | (go_at_call 96; refine (mnode_any _ _ _ _ _ _).mono ?_; rintro e u2 ⟨rfl, hx3⟩; have HA3 := Lib.hid (HA1.out.ext hx3); obtain ⟨_, z0, z1, z2, z3, z4, z5, z6, z7⟩ := HA3.out.nx.nb))
      refine bodyPost_ret (v := .agg #[.int .i64 4, .int .i64 0, .string S1, .slice none 0 0]) (by simp [results, Tryz.results99, go_sem, *]) rfl ?_
      exact HA3.out.fin (by omega) ⟨4, 0, S1, none, 0, 0⟩ (.nd 4 0 s1 []) (by rw [ES1.out]; exact HT.leaf _ _ 4 0 s1) (.leaf (.field _ _ ((by decide : ∀ s ∈ ([wDay, wServed] : List (List UInt8)), s ∈ fields) _ M1.out)))
    · go_wp2_with (first | (go_at_call 44; refine (HA.out.nextI (by omega) 60 60 rfl (by decide) (by decide)).mono ?_; rintro e u1 ⟨k1, rfl, hk1, ha1, hm1⟩; have HA1 := Lib.hid ha1; obtain ⟨_, z0, z1, z2, z3, z4, z5, z6, z7⟩ := ha1.nx.nb; clear ha1))
      refine bodyPost_ret (v := .agg #[.int .i64 3, .int .i64 (739616 + (k1 : Int)), .string ⟨#[]⟩, .slice none 0 0]) (by simp [results, Tryz.results99, go_sem, *]) rfl ?_
      exact HA1.out.fin (by omega) ⟨3, 739616 + (k1 : Int), ⟨#[]⟩, none, 0, 0⟩ (.nd 3 (739616 + (k1 : Int)) [] []) (HT.leaf _ _ 3 (739616 + (k1 : Int)) []) (.leaf (.day _ _ (by omega)))
    · have h1I : (1 : Int) ≤ (deep : Int) := by omega
      have hwd : IntKind.i64.wrap ((deep : Int) - 1) = (deep : Int) - 1 := IntWalk.i64_in _ (by omega)
      go_upto_region 13 with (fail)
      refine wp_region_E (fun _ => True) (fun X => Kp b W.heap.size wc X) (fun _ => true) (by kernel_rfl) ?_
      obtain ⟨u1, hu9, hx9⟩ : ∃ x, wc.drew = x ∧ Ext wc x := ⟨_, rfl, (Ext.refl _).drew⟩
      rw [hu9]
      clear hu9
      have HA2 := Lib.hid (HA.out.ext hx9)
      refine wpE_strong (T' := fun X => Kp b W.heap.size u1 X) (fun _ h9 => (Kp.of_ext _ hx9).trans h9) _ _ _ _ ?_
      clear hx9
      refine tkA (i := 1) (d := some 40) (v := ?_) (Kp.refl _ _ _) ?_ ?_; rotate_left
      · (intro w9 hT9; clear hT9; go_simp; try with_reducible rfl)
      (try simp only [Act.put, sA, sZ, sS])
      refine tkA (i := 5) (d := some 44) (v := ?_) (Kp.refl _ _ _) ?_ ?_; rotate_left
      · (intro w9 hT9; clear hT9; go_simp; try with_reducible rfl)
      (try simp only [Act.put, sA, sZ, sS])
      refine tkA (i := 6) (d := some 45) (v := ?_) (Kp.refl _ _ _) ?_ ?_; rotate_left
      · (intro w9 hT9; clear hT9; go_simp; try with_reducible rfl)
      (try simp only [Act.put, sA, sZ, sS])
      refine tkA (i := 7) (d := some 46) (v := ?_) (Kp.refl _ _ _) ?_ ?_; rotate_left
      · (intro w9 hT9; clear hT9; go_simp; try with_reducible rfl)
      (try simp only [Act.put, sA, sZ, sS])
      refine two (i := 0) (j := 2) (fun K hK => ?_) (fun K hK => ?_)
      · skip
        simp only [List.getElem_toArray, List.getElem_cons_zero]
        go_simp
        have hx4 : Ext u1 (u1.alloc (.cells #[.string ⟨#[110, 101, 120, 116]⟩, .string ⟨#[112, 114, 101, 118]⟩] 9)) := (Ext.refl _).alloc _
        have hn9 := SR.new u1 [wNext, wPrev] #[.string ⟨#[110, 101, 120, 116]⟩, .string ⟨#[112, 114, 101, 118]⟩] rfl
        obtain ⟨u3, hu9⟩ : ∃ x, x = u1.alloc (.cells #[.string ⟨#[110, 101, 120, 116]⟩, .string ⟨#[112, 114, 101, 118]⟩] 9) := ⟨_, rfl⟩
        obtain ⟨g5, hg5⟩ : ∃ x, x = u1.heap.size := ⟨_, rfl⟩
        have hg5b : g5 ≠ b := by have := HA2.out.sz; omega
        have hg5W : g5 ≠ W.heap.size := by have := HA2.out.sz; omega
        rw [← hu9, ← hg5] at hn9
        rw [← hu9] at hx4 ⊢
        rw [← hg5]
        have HA6 := Lib.hid (HA2.out.ext hx4)
        have HN7 := Lib.hid hn9
        clear hu9 hn9 hg5
        refine NextE.go (Z := Kp b W.heap.size) (u := u1) hK (Kp.of_ext _ hx4) (fun _ h9 => (Kp.of_ext _ hx4).trans h9) ?_
        clear hK K
        (try simp only [Act.put, sA, sZ, sS])
        try clear hx4
        refine one (i := 2) (fun K hK => ?_)
        simp only [List.getElem_toArray, List.getElem_cons_succ, List.getElem_cons_zero]
        go_simp
        go_at_call 44
        refine (HA6.out.nextI (by have := FN_up h1; omega) 2 2 rfl (by decide) (by decide)).mono ?_
        rintro e u9 ⟨k8, rfl, hk8, ha9, hm10⟩
        have HA11 := Lib.hid ha9
        clear ha9
        simp only []
        have hk8I : (k8 : Int) < 2 := by omega
        have hk8J : (0 : Int) ≤ (k8 : Int) := Int.natCast_nonneg _
        have HSR12 := Lib.hid (HN7.out.mv hm10 hg5b)
        obtain ⟨s13, hs13⟩ : ∃ s, ([wNext, wPrev] : List (List UInt8))[k8]? = some s := ⟨_, List.getElem?_eq_getElem (by simpa using hk8)⟩
        have Ms13 := Lib.hid (List.mem_of_getElem? hs13)
        have Gs13 := Lib.hid hs13
        obtain ⟨S14, hS14⟩ : ∃ S, S = bs s13 := ⟨_, rfl⟩
        have ES14 := Lib.hid hS14
        clear hs13 hS14
        refine NextE.go (Z := Kp b W.heap.size) (u := u3) hK (Kp.of_mv _ hm10) (fun _ h9 => (Kp.of_mv _ hm10).trans h9) ?_
        clear hK K
        (try simp only [Act.put, sA, sZ, sS])
        try clear hm10
        refine tkA (i := 3) (d := some 42) (v := ?_) (Kp.refl _ _ _) ?_ ?_; rotate_left
        · (intro w9 hT9; clear hT9; go_simp; try with_reducible rfl)
        (try simp only [Act.put, sA, sZ, sS])
        refine tkA (i := 4) (d := some 43) (v := ?_) (Kp.refl _ _ _) ?_ ?_; rotate_left
        · (intro w9 hT9; have q9 := (HSR12.out.kp hT9 hg5b hg5W).at_ _ _ Gs13.out; rw [← ES14.out] at q9; go_simp; try with_reducible rfl)
        (try simp only [Act.put, sA, sZ, sS])
        refine one (i := 8) (fun K hK => ?_)
        simp only [List.getElem_toArray, List.getElem_cons_succ, List.getElem_cons_zero]
        go_simp
        go_at_call 99
        refine (HS99.out h1 _ _ HA11.out (by have := FN_up h1; omega)).mono ?_
        rintro e u15 hp9
        obtain ⟨d18, t19, rfl, hr9, hg9, ha9, hm16⟩ := HA11.out.sub hp9
        have HA17 := Lib.hid ha9
        have HR20 := Lib.hid hr9
        have HGt19 := Lib.hid hg9
        clear hp9 ha9 hr9 hg9
        simp only []
        have HSR21 := Lib.hid (HSR12.out.mv hm16 hg5b)
        refine NextE.go (Z := Kp b W.heap.size) (u := u9) hK (Kp.of_mv _ hm16) (fun _ h9 => (Kp.of_mv _ hm16).trans h9) ?_
        clear hK K
        (try simp only [Act.put, sA, sZ, sS])
        try clear hm16
        refine one (i := 9) (fun K hK => ?_)
        simp only [List.getElem_toArray, List.getElem_cons_succ, List.getElem_cons_zero]
        go_simp
        have hx23 : Ext u15 (u15.alloc (.cells #[.int .i64 d18.k, .int .i64 d18.n, .string d18.s, .slice d18.A d18.m d18.c] 31)) := (Ext.refl _).alloc _
        have hn9 : ∀ (k n : Int) (s : List UInt8), HT W (u15.alloc (.cells #[.int .i64 d18.k, .int .i64 d18.n, .string d18.s, .slice d18.A d18.m d18.c] 31)) ⟨k, n, bs s, some ⟨u15.heap.size, 0, none⟩, 1, 1⟩ (.nd k n s [t19]) := fun k n s => HT.node HA17.out.sz k n s [d18] [t19] #[.int .i64 d18.k, .int .i64 d18.n, .string d18.s, .slice d18.A d18.m d18.c] 1 rfl rfl (HT.kids1 HR20.out)
        obtain ⟨u22, hu9⟩ : ∃ x, x = u15.alloc (.cells #[.int .i64 d18.k, .int .i64 d18.n, .string d18.s, .slice d18.A d18.m d18.c] 31) := ⟨_, rfl⟩
        obtain ⟨g24, hg24⟩ : ∃ x, x = u15.heap.size := ⟨_, rfl⟩
        have hg24b : g24 ≠ b := by have := HA17.out.sz; omega
        have hg24W : g24 ≠ W.heap.size := by have := HA17.out.sz; omega
        rw [← hu9, ← hg24] at hn9
        rw [← hu9] at hx23 ⊢
        rw [← hg24]
        have HA25 := Lib.hid (HA17.out.ext hx23)
        have HN26 := Lib.hid hn9
        clear hu9 hn9 hg24
        have HSR27 := Lib.hid (HSR21.out.mv (Mv.of_ext hx23) hg5b)
        have HHT28 := Lib.hid (HR20.out.mv (Mv.of_ext hx23) hbW)
        refine NextE.go (Z := Kp b W.heap.size) (u := u15) hK (Kp.of_ext _ hx23) (fun _ h9 => (Kp.of_ext _ hx23).trans h9) ?_
        clear hK K
        (try simp only [Act.put, sA, sZ, sS])
        try clear hx23
        refine one (i := 10) (fun K hK => ?_)
        simp only [List.getElem_toArray, List.getElem_cons_succ, List.getElem_cons_zero]
        go_simp
        go_at_call 96
        refine (mnode_any _ _ _ _ _ _).mono ?_
        rintro e u29 ⟨rfl, hx30⟩
        simp only []
        have HSR32 := Lib.hid (HSR27.out.mv (Mv.of_ext hx30) hg5b)
        have HHT33 := Lib.hid (HHT28.out.mv (Mv.of_ext hx30) hbW)
        have HRW34 := Lib.hid (fun k n s => (HN26.out k n s).mv (Mv.of_ext hx30) hbW)
        have HA31 := Lib.hid (HA25.out.ext hx30)
        refine NextE.go (Z := Kp b W.heap.size) (u := u22) hK (Kp.of_ext _ hx30) (fun _ h9 => (Kp.of_ext _ hx30).trans h9) ?_
        clear hK K
        (try simp only [Act.put, sA, sZ, sS])
        try clear hx30
        refine one (i := 11) (fun K hK => ?_)
        obtain ⟨_, z0, z1, z2, z3, z4, z5, z6, z7⟩ := HA31.out.nx.nb
        simp only [List.getElem_toArray, List.getElem_cons_succ, List.getElem_cons_zero]
        go_simp
        refine hK.out _ _ ⟨fun _ => trivial, Kp.set4 _ _ _ _⟩ (fun _ => ?_)
        clear hK K
        (try simp only [Act.put, sA, sZ, sS])
        refine wpE_done (by kernel_rfl) ?_ _
        go_wp2_with fail
        refine bodyPost_ret (v := .agg #[.int .i64 10, .int .i64 0, .string S14, .slice (some ⟨g24, 0, none⟩) 1 1]) (by simp [results, Tryz.results99, go_sem, *]) rfl ?_
        exact HA31.out.fin (by have := FN_up h1; omega) ⟨10, 0, S14, some ⟨g24, 0, none⟩, 1, 1⟩ (.nd 10 0 s13 [t19]) (by rw [ES14.out]; exact HRW34.out 10 0 s13) (.up h1 (.call12 ((by decide : ∀ s ∈ ([wNext, wPrev] : List (List UInt8)), s ∈ functions) _ Ms13.out) ((by decide : ∀ s ∈ ([wNext, wPrev] : List (List UInt8)), argsN s = 1) _ Ms13.out) HGt19.out.1) (by have := HGt19.out.2; simp only [tszs]; omega))
      · skip
        simp only [List.getElem_toArray, List.getElem_cons_succ, List.getElem_cons_zero]
        go_simp
        go_at_call 44
        refine (HA2.out.nextI (by have := FN_up h1; omega) 2 2 rfl (by decide) (by decide)).mono ?_
        rintro e u36 ⟨k35, rfl, hk35, ha9, hm37⟩
        have HA38 := Lib.hid ha9
        clear ha9
        simp only []
        have hk35I : (k35 : Int) < 2 := by omega
        have hk35J : (0 : Int) ≤ (k35 : Int) := Int.natCast_nonneg _
        refine NextE.go (Z := Kp b W.heap.size) (u := u1) hK (Kp.of_mv _ hm37) (fun _ h9 => (Kp.of_mv _ hm37).trans h9) ?_
        clear hK K
        (try simp only [Act.put, sA, sZ, sS])
        try clear hm37
        refine two (i := 0) (j := 8) (fun K hK => ?_) (fun K hK => ?_)
        · skip
          simp only [List.getElem_toArray, List.getElem_cons_zero]
          go_simp
          have hx40 : Ext u36 (u36.alloc (.cells #[.string ⟨#[110, 101, 120, 116]⟩, .string ⟨#[112, 114, 101, 118]⟩] 9)) := (Ext.refl _).alloc _
          have hn9 := SR.new u36 [wNext, wPrev] #[.string ⟨#[110, 101, 120, 116]⟩, .string ⟨#[112, 114, 101, 118]⟩] rfl
          obtain ⟨u39, hu9⟩ : ∃ x, x = u36.alloc (.cells #[.string ⟨#[110, 101, 120, 116]⟩, .string ⟨#[112, 114, 101, 118]⟩] 9) := ⟨_, rfl⟩
          obtain ⟨g41, hg41⟩ : ∃ x, x = u36.heap.size := ⟨_, rfl⟩
          have hg41b : g41 ≠ b := by have := HA38.out.sz; omega
          have hg41W : g41 ≠ W.heap.size := by have := HA38.out.sz; omega
          rw [← hu9, ← hg41] at hn9
          rw [← hu9] at hx40 ⊢
          rw [← hg41]
          have HA42 := Lib.hid (HA38.out.ext hx40)
          have HN43 := Lib.hid hn9
          clear hu9 hn9 hg41
          obtain ⟨s44, hs44⟩ : ∃ s, ([wNext, wPrev] : List (List UInt8))[k35]? = some s := ⟨_, List.getElem?_eq_getElem (by simpa using hk35)⟩
          have Ms44 := Lib.hid (List.mem_of_getElem? hs44)
          have Gs44 := Lib.hid hs44
          obtain ⟨S45, hS45⟩ : ∃ S, S = bs s44 := ⟨_, rfl⟩
          have ES45 := Lib.hid hS45
          clear hs44 hS45
          refine NextE.go (Z := Kp b W.heap.size) (u := u36) hK (Kp.of_ext _ hx40) (fun _ h9 => (Kp.of_ext _ hx40).trans h9) ?_
          clear hK K
          (try simp only [Act.put, sA, sZ, sS])
          try clear hx40
          refine tkA (i := 3) (d := some 42) (v := ?_) (Kp.refl _ _ _) ?_ ?_; rotate_left
          · (intro w9 hT9; clear hT9; go_simp; try with_reducible rfl)
          (try simp only [Act.put, sA, sZ, sS])
          refine tkA (i := 4) (d := some 43) (v := ?_) (Kp.refl _ _ _) ?_ ?_; rotate_left
          · (intro w9 hT9; have q9 := (HN43.out.kp hT9 hg41b hg41W).at_ _ _ Gs44.out; rw [← ES45.out] at q9; go_simp; try with_reducible rfl)
          (try simp only [Act.put, sA, sZ, sS])
          refine one (i := 8) (fun K hK => ?_)
          simp only [List.getElem_toArray, List.getElem_cons_succ, List.getElem_cons_zero]
          go_simp
          go_at_call 99
          refine (HS99.out h1 _ _ HA42.out (by have := FN_up h1; omega)).mono ?_
          rintro e u46 hp9
          obtain ⟨d49, t50, rfl, hr9, hg9, ha9, hm47⟩ := HA42.out.sub hp9
          have HA48 := Lib.hid ha9
          have HR51 := Lib.hid hr9
          have HGt50 := Lib.hid hg9
          clear hp9 ha9 hr9 hg9
          simp only []
          have HSR52 := Lib.hid (HN43.out.mv hm47 hg41b)
          refine NextE.go (Z := Kp b W.heap.size) (u := u39) hK (Kp.of_mv _ hm47) (fun _ h9 => (Kp.of_mv _ hm47).trans h9) ?_
          clear hK K
          (try simp only [Act.put, sA, sZ, sS])
          try clear hm47
          refine one (i := 9) (fun K hK => ?_)
          simp only [List.getElem_toArray, List.getElem_cons_succ, List.getElem_cons_zero]
          go_simp
          have hx54 : Ext u46 (u46.alloc (.cells #[.int .i64 d49.k, .int .i64 d49.n, .string d49.s, .slice d49.A d49.m d49.c] 31)) := (Ext.refl _).alloc _
          have hn9 : ∀ (k n : Int) (s : List UInt8), HT W (u46.alloc (.cells #[.int .i64 d49.k, .int .i64 d49.n, .string d49.s, .slice d49.A d49.m d49.c] 31)) ⟨k, n, bs s, some ⟨u46.heap.size, 0, none⟩, 1, 1⟩ (.nd k n s [t50]) := fun k n s => HT.node HA48.out.sz k n s [d49] [t50] #[.int .i64 d49.k, .int .i64 d49.n, .string d49.s, .slice d49.A d49.m d49.c] 1 rfl rfl (HT.kids1 HR51.out)
          obtain ⟨u53, hu9⟩ : ∃ x, x = u46.alloc (.cells #[.int .i64 d49.k, .int .i64 d49.n, .string d49.s, .slice d49.A d49.m d49.c] 31) := ⟨_, rfl⟩
          obtain ⟨g55, hg55⟩ : ∃ x, x = u46.heap.size := ⟨_, rfl⟩
          have hg55b : g55 ≠ b := by have := HA48.out.sz; omega
          have hg55W : g55 ≠ W.heap.size := by have := HA48.out.sz; omega
          rw [← hu9, ← hg55] at hn9
          rw [← hu9] at hx54 ⊢
          rw [← hg55]
          have HA56 := Lib.hid (HA48.out.ext hx54)
          have HN57 := Lib.hid hn9
          clear hu9 hn9 hg55
          have HSR58 := Lib.hid (HSR52.out.mv (Mv.of_ext hx54) hg41b)
          have HHT59 := Lib.hid (HR51.out.mv (Mv.of_ext hx54) hbW)
          refine NextE.go (Z := Kp b W.heap.size) (u := u46) hK (Kp.of_ext _ hx54) (fun _ h9 => (Kp.of_ext _ hx54).trans h9) ?_
          clear hK K
          (try simp only [Act.put, sA, sZ, sS])
          try clear hx54
          refine one (i := 10) (fun K hK => ?_)
          simp only [List.getElem_toArray, List.getElem_cons_succ, List.getElem_cons_zero]
          go_simp
          go_at_call 96
          refine (mnode_any _ _ _ _ _ _).mono ?_
          rintro e u60 ⟨rfl, hx61⟩
          simp only []
          have HSR63 := Lib.hid (HSR58.out.mv (Mv.of_ext hx61) hg41b)
          have HHT64 := Lib.hid (HHT59.out.mv (Mv.of_ext hx61) hbW)
          have HRW65 := Lib.hid (fun k n s => (HN57.out k n s).mv (Mv.of_ext hx61) hbW)
          have HA62 := Lib.hid (HA56.out.ext hx61)
          refine NextE.go (Z := Kp b W.heap.size) (u := u53) hK (Kp.of_ext _ hx61) (fun _ h9 => (Kp.of_ext _ hx61).trans h9) ?_
          clear hK K
          (try simp only [Act.put, sA, sZ, sS])
          try clear hx61
          refine one (i := 11) (fun K hK => ?_)
          obtain ⟨_, z0, z1, z2, z3, z4, z5, z6, z7⟩ := HA62.out.nx.nb
          simp only [List.getElem_toArray, List.getElem_cons_succ, List.getElem_cons_zero]
          go_simp
          refine hK.out _ _ ⟨fun _ => trivial, Kp.set4 _ _ _ _⟩ (fun _ => ?_)
          clear hK K
          (try simp only [Act.put, sA, sZ, sS])
          refine wpE_done (by kernel_rfl) ?_ _
          go_wp2_with fail
          refine bodyPost_ret (v := .agg #[.int .i64 10, .int .i64 0, .string S45, .slice (some ⟨g55, 0, none⟩) 1 1]) (by simp [results, Tryz.results99, go_sem, *]) rfl ?_
          exact HA62.out.fin (by have := FN_up h1; omega) ⟨10, 0, S45, some ⟨g55, 0, none⟩, 1, 1⟩ (.nd 10 0 s44 [t50]) (by rw [ES45.out]; exact HRW65.out 10 0 s44) (.up h1 (.call12 ((by decide : ∀ s ∈ ([wNext, wPrev] : List (List UInt8)), s ∈ functions) _ Ms44.out) ((by decide : ∀ s ∈ ([wNext, wPrev] : List (List UInt8)), argsN s = 1) _ Ms44.out) HGt50.out.1) (by have := HGt50.out.2; simp only [tszs]; omega))
        · skip
          simp only [List.getElem_toArray, List.getElem_cons_succ, List.getElem_cons_zero]
          go_simp
          go_at_call 99
          refine (HS99.out h1 _ _ HA38.out (by have := FN_up h1; omega)).mono ?_
          rintro e u66 hp9
          obtain ⟨d69, t70, rfl, hr9, hg9, ha9, hm67⟩ := HA38.out.sub hp9
          have HA68 := Lib.hid ha9
          have HR71 := Lib.hid hr9
          have HGt70 := Lib.hid hg9
          clear hp9 ha9 hr9 hg9
          simp only []
          refine NextE.go (Z := Kp b W.heap.size) (u := u36) hK (Kp.of_mv _ hm67) (fun _ h9 => (Kp.of_mv _ hm67).trans h9) ?_
          clear hK K
          (try simp only [Act.put, sA, sZ, sS])
          try clear hm67
          refine two (i := 0) (j := 9) (fun K hK => ?_) (fun K hK => ?_)
          · skip
            simp only [List.getElem_toArray, List.getElem_cons_zero]
            go_simp
            have hx73 : Ext u66 (u66.alloc (.cells #[.string ⟨#[110, 101, 120, 116]⟩, .string ⟨#[112, 114, 101, 118]⟩] 9)) := (Ext.refl _).alloc _
            have hn9 := SR.new u66 [wNext, wPrev] #[.string ⟨#[110, 101, 120, 116]⟩, .string ⟨#[112, 114, 101, 118]⟩] rfl
            obtain ⟨u72, hu9⟩ : ∃ x, x = u66.alloc (.cells #[.string ⟨#[110, 101, 120, 116]⟩, .string ⟨#[112, 114, 101, 118]⟩] 9) := ⟨_, rfl⟩
            obtain ⟨g74, hg74⟩ : ∃ x, x = u66.heap.size := ⟨_, rfl⟩
            have hg74b : g74 ≠ b := by have := HA68.out.sz; omega
            have hg74W : g74 ≠ W.heap.size := by have := HA68.out.sz; omega
            rw [← hu9, ← hg74] at hn9
            rw [← hu9] at hx73 ⊢
            rw [← hg74]
            have HA75 := Lib.hid (HA68.out.ext hx73)
            have HN76 := Lib.hid hn9
            clear hu9 hn9 hg74
            have HHT77 := Lib.hid (HR71.out.mv (Mv.of_ext hx73) hbW)
            obtain ⟨s78, hs78⟩ : ∃ s, ([wNext, wPrev] : List (List UInt8))[k35]? = some s := ⟨_, List.getElem?_eq_getElem (by simpa using hk35)⟩
            have Ms78 := Lib.hid (List.mem_of_getElem? hs78)
            have Gs78 := Lib.hid hs78
            obtain ⟨S79, hS79⟩ : ∃ S, S = bs s78 := ⟨_, rfl⟩
            have ES79 := Lib.hid hS79
            clear hs78 hS79
            refine NextE.go (Z := Kp b W.heap.size) (u := u66) hK (Kp.of_ext _ hx73) (fun _ h9 => (Kp.of_ext _ hx73).trans h9) ?_
            clear hK K
            (try simp only [Act.put, sA, sZ, sS])
            try clear hx73
            refine tkA (i := 3) (d := some 42) (v := ?_) (Kp.refl _ _ _) ?_ ?_; rotate_left
            · (intro w9 hT9; clear hT9; go_simp; try with_reducible rfl)
            (try simp only [Act.put, sA, sZ, sS])
            refine tkA (i := 4) (d := some 43) (v := ?_) (Kp.refl _ _ _) ?_ ?_; rotate_left
            · (intro w9 hT9; have q9 := (HN76.out.kp hT9 hg74b hg74W).at_ _ _ Gs78.out; rw [← ES79.out] at q9; go_simp; try with_reducible rfl)
            (try simp only [Act.put, sA, sZ, sS])
            refine one (i := 9) (fun K hK => ?_)
            simp only [List.getElem_toArray, List.getElem_cons_succ, List.getElem_cons_zero]
            go_simp
            have hx81 : Ext u72 (u72.alloc (.cells #[.int .i64 d69.k, .int .i64 d69.n, .string d69.s, .slice d69.A d69.m d69.c] 31)) := (Ext.refl _).alloc _
            have hn9 : ∀ (k n : Int) (s : List UInt8), HT W (u72.alloc (.cells #[.int .i64 d69.k, .int .i64 d69.n, .string d69.s, .slice d69.A d69.m d69.c] 31)) ⟨k, n, bs s, some ⟨u72.heap.size, 0, none⟩, 1, 1⟩ (.nd k n s [t70]) := fun k n s => HT.node HA75.out.sz k n s [d69] [t70] #[.int .i64 d69.k, .int .i64 d69.n, .string d69.s, .slice d69.A d69.m d69.c] 1 rfl rfl (HT.kids1 HHT77.out)
            obtain ⟨u80, hu9⟩ : ∃ x, x = u72.alloc (.cells #[.int .i64 d69.k, .int .i64 d69.n, .string d69.s, .slice d69.A d69.m d69.c] 31) := ⟨_, rfl⟩
            obtain ⟨g82, hg82⟩ : ∃ x, x = u72.heap.size := ⟨_, rfl⟩
            have hg82b : g82 ≠ b := by have := HA75.out.sz; omega
            have hg82W : g82 ≠ W.heap.size := by have := HA75.out.sz; omega
            rw [← hu9, ← hg82] at hn9
            rw [← hu9] at hx81 ⊢
            rw [← hg82]
            have HA83 := Lib.hid (HA75.out.ext hx81)
            have HN84 := Lib.hid hn9
            clear hu9 hn9 hg82
            have HSR85 := Lib.hid (HN76.out.mv (Mv.of_ext hx81) hg74b)
            have HHT86 := Lib.hid (HHT77.out.mv (Mv.of_ext hx81) hbW)
            refine NextE.go (Z := Kp b W.heap.size) (u := u72) hK (Kp.of_ext _ hx81) (fun _ h9 => (Kp.of_ext _ hx81).trans h9) ?_
            clear hK K
            (try simp only [Act.put, sA, sZ, sS])
            try clear hx81
            refine one (i := 10) (fun K hK => ?_)
            simp only [List.getElem_toArray, List.getElem_cons_succ, List.getElem_cons_zero]
            go_simp
            go_at_call 96
            refine (mnode_any _ _ _ _ _ _).mono ?_
            rintro e u87 ⟨rfl, hx88⟩
            simp only []
            have HSR90 := Lib.hid (HSR85.out.mv (Mv.of_ext hx88) hg74b)
            have HHT91 := Lib.hid (HHT86.out.mv (Mv.of_ext hx88) hbW)
            have HRW92 := Lib.hid (fun k n s => (HN84.out k n s).mv (Mv.of_ext hx88) hbW)
            have HA89 := Lib.hid (HA83.out.ext hx88)
            refine NextE.go (Z := Kp b W.heap.size) (u := u80) hK (Kp.of_ext _ hx88) (fun _ h9 => (Kp.of_ext _ hx88).trans h9) ?_
            clear hK K
            (try simp only [Act.put, sA, sZ, sS])
            try clear hx88
            refine one (i := 11) (fun K hK => ?_)
            obtain ⟨_, z0, z1, z2, z3, z4, z5, z6, z7⟩ := HA89.out.nx.nb
            simp only [List.getElem_toArray, List.getElem_cons_succ, List.getElem_cons_zero]
            go_simp
            refine hK.out _ _ ⟨fun _ => trivial, Kp.set4 _ _ _ _⟩ (fun _ => ?_)
            clear hK K
            (try simp only [Act.put, sA, sZ, sS])
            refine wpE_done (by kernel_rfl) ?_ _
            go_wp2_with fail
            refine bodyPost_ret (v := .agg #[.int .i64 10, .int .i64 0, .string S79, .slice (some ⟨g82, 0, none⟩) 1 1]) (by simp [results, Tryz.results99, go_sem, *]) rfl ?_
            exact HA89.out.fin (by have := FN_up h1; omega) ⟨10, 0, S79, some ⟨g82, 0, none⟩, 1, 1⟩ (.nd 10 0 s78 [t70]) (by rw [ES79.out]; exact HRW92.out 10 0 s78) (.up h1 (.call12 ((by decide : ∀ s ∈ ([wNext, wPrev] : List (List UInt8)), s ∈ functions) _ Ms78.out) ((by decide : ∀ s ∈ ([wNext, wPrev] : List (List UInt8)), argsN s = 1) _ Ms78.out) HGt70.out.1) (by have := HGt70.out.2; simp only [tszs]; omega))
          · skip
            simp only [List.getElem_toArray, List.getElem_cons_succ, List.getElem_cons_zero]
            go_simp
            have hx94 : Ext u66 (u66.alloc (.cells #[.int .i64 d69.k, .int .i64 d69.n, .string d69.s, .slice d69.A d69.m d69.c] 31)) := (Ext.refl _).alloc _
            have hn9 : ∀ (k n : Int) (s : List UInt8), HT W (u66.alloc (.cells #[.int .i64 d69.k, .int .i64 d69.n, .string d69.s, .slice d69.A d69.m d69.c] 31)) ⟨k, n, bs s, some ⟨u66.heap.size, 0, none⟩, 1, 1⟩ (.nd k n s [t70]) := fun k n s => HT.node HA68.out.sz k n s [d69] [t70] #[.int .i64 d69.k, .int .i64 d69.n, .string d69.s, .slice d69.A d69.m d69.c] 1 rfl rfl (HT.kids1 HR71.out)
            obtain ⟨u93, hu9⟩ : ∃ x, x = u66.alloc (.cells #[.int .i64 d69.k, .int .i64 d69.n, .string d69.s, .slice d69.A d69.m d69.c] 31) := ⟨_, rfl⟩
            obtain ⟨g95, hg95⟩ : ∃ x, x = u66.heap.size := ⟨_, rfl⟩
            have hg95b : g95 ≠ b := by have := HA68.out.sz; omega
            have hg95W : g95 ≠ W.heap.size := by have := HA68.out.sz; omega
            rw [← hu9, ← hg95] at hn9
            rw [← hu9] at hx94 ⊢
            rw [← hg95]
            have HA96 := Lib.hid (HA68.out.ext hx94)
            have HN97 := Lib.hid hn9
            clear hu9 hn9 hg95
            have HHT98 := Lib.hid (HR71.out.mv (Mv.of_ext hx94) hbW)
            refine NextE.go (Z := Kp b W.heap.size) (u := u66) hK (Kp.of_ext _ hx94) (fun _ h9 => (Kp.of_ext _ hx94).trans h9) ?_
            clear hK K
            (try simp only [Act.put, sA, sZ, sS])
            try clear hx94
            refine one (i := 0) (fun K hK => ?_)
            simp only [List.getElem_toArray, List.getElem_cons_zero]
            go_simp
            have hx100 : Ext u93 (u93.alloc (.cells #[.string ⟨#[110, 101, 120, 116]⟩, .string ⟨#[112, 114, 101, 118]⟩] 9)) := (Ext.refl _).alloc _
            have hn9 := SR.new u93 [wNext, wPrev] #[.string ⟨#[110, 101, 120, 116]⟩, .string ⟨#[112, 114, 101, 118]⟩] rfl
            obtain ⟨u99, hu9⟩ : ∃ x, x = u93.alloc (.cells #[.string ⟨#[110, 101, 120, 116]⟩, .string ⟨#[112, 114, 101, 118]⟩] 9) := ⟨_, rfl⟩
            obtain ⟨g101, hg101⟩ : ∃ x, x = u93.heap.size := ⟨_, rfl⟩
            have hg101b : g101 ≠ b := by have := HA96.out.sz; omega
            have hg101W : g101 ≠ W.heap.size := by have := HA96.out.sz; omega
            rw [← hu9, ← hg101] at hn9
            rw [← hu9] at hx100 ⊢
            rw [← hg101]
            have HA102 := Lib.hid (HA96.out.ext hx100)
            have HN103 := Lib.hid hn9
            clear hu9 hn9 hg101
            have HHT104 := Lib.hid (HHT98.out.mv (Mv.of_ext hx100) hbW)
            have HRW105 := Lib.hid (fun k n s => (HN97.out k n s).mv (Mv.of_ext hx100) hbW)
            obtain ⟨s106, hs106⟩ : ∃ s, ([wNext, wPrev] : List (List UInt8))[k35]? = some s := ⟨_, List.getElem?_eq_getElem (by simpa using hk35)⟩
            have Ms106 := Lib.hid (List.mem_of_getElem? hs106)
            have Gs106 := Lib.hid hs106
            obtain ⟨S107, hS107⟩ : ∃ S, S = bs s106 := ⟨_, rfl⟩
            have ES107 := Lib.hid hS107
            clear hs106 hS107
            refine NextE.go (Z := Kp b W.heap.size) (u := u93) hK (Kp.of_ext _ hx100) (fun _ h9 => (Kp.of_ext _ hx100).trans h9) ?_
            clear hK K
            (try simp only [Act.put, sA, sZ, sS])
            try clear hx100
            refine tkA (i := 3) (d := some 42) (v := ?_) (Kp.refl _ _ _) ?_ ?_; rotate_left
            · (intro w9 hT9; clear hT9; go_simp; try with_reducible rfl)
            (try simp only [Act.put, sA, sZ, sS])
            refine tkA (i := 4) (d := some 43) (v := ?_) (Kp.refl _ _ _) ?_ ?_; rotate_left
            · (intro w9 hT9; have q9 := (HN103.out.kp hT9 hg101b hg101W).at_ _ _ Gs106.out; rw [← ES107.out] at q9; go_simp; try with_reducible rfl)
            (try simp only [Act.put, sA, sZ, sS])
            refine one (i := 10) (fun K hK => ?_)
            simp only [List.getElem_toArray, List.getElem_cons_succ, List.getElem_cons_zero]
            go_simp
            go_at_call 96
            refine (mnode_any _ _ _ _ _ _).mono ?_
            rintro e u108 ⟨rfl, hx109⟩
            simp only []
            have HSR111 := Lib.hid (HN103.out.mv (Mv.of_ext hx109) hg101b)
            have HHT112 := Lib.hid (HHT104.out.mv (Mv.of_ext hx109) hbW)
            have HRW113 := Lib.hid (fun k n s => (HRW105.out k n s).mv (Mv.of_ext hx109) hbW)
            have HA110 := Lib.hid (HA102.out.ext hx109)
            refine NextE.go (Z := Kp b W.heap.size) (u := u99) hK (Kp.of_ext _ hx109) (fun _ h9 => (Kp.of_ext _ hx109).trans h9) ?_
            clear hK K
            (try simp only [Act.put, sA, sZ, sS])
            try clear hx109
            refine one (i := 11) (fun K hK => ?_)
            obtain ⟨_, z0, z1, z2, z3, z4, z5, z6, z7⟩ := HA110.out.nx.nb
            simp only [List.getElem_toArray, List.getElem_cons_succ, List.getElem_cons_zero]
            go_simp
            refine hK.out _ _ ⟨fun _ => trivial, Kp.set4 _ _ _ _⟩ (fun _ => ?_)
            clear hK K
            (try simp only [Act.put, sA, sZ, sS])
            refine wpE_done (by kernel_rfl) ?_ _
            go_wp2_with fail
            refine bodyPost_ret (v := .agg #[.int .i64 10, .int .i64 0, .string S107, .slice (some ⟨g95, 0, none⟩) 1 1]) (by simp [results, Tryz.results99, go_sem, *]) rfl ?_
            exact HA110.out.fin (by have := FN_up h1; omega) ⟨10, 0, S107, some ⟨g95, 0, none⟩, 1, 1⟩ (.nd 10 0 s106 [t70]) (by rw [ES107.out]; exact HRW113.out 10 0 s106) (.up h1 (.call12 ((by decide : ∀ s ∈ ([wNext, wPrev] : List (List UInt8)), s ∈ functions) _ Ms106.out) ((by decide : ∀ s ∈ ([wNext, wPrev] : List (List UInt8)), argsN s = 1) _ Ms106.out) HGt70.out.1) (by have := HGt70.out.2; simp only [tszs]; omega))
    · have h1I : (1 : Int) ≤ (deep : Int) := by omega
      have hwd : IntKind.i64.wrap ((deep : Int) - 1) = (deep : Int) - 1 := IntWalk.i64_in _ (by omega)
      go_upto_region 16 with (first | (go_at_call 99; refine (HS99.out h1 _ _ HA.out (by have := FN_up h1; omega)).mono ?_; rintro e u1 hp; obtain ⟨d1, t1, rfl, hr9, hg9, ha9, hm1⟩ := HA.out.sub hp; have HA1 := Lib.hid ha9; have HR1 := Lib.hid hr9; have HGt1 := Lib.hid hg9; clear hp ha9 hr9 hg9))
      have hx6 : Ext u1 (u1.alloc (.cells #[.int .i64 d1.k, .int .i64 d1.n, .string d1.s, .slice d1.A d1.m d1.c] 31)) := (Ext.refl _).alloc _
      have hc6 : NX (u1.alloc (.cells #[.int .i64 d1.k, .int .i64 d1.n, .string d1.s, .slice d1.A d1.m d1.c] 31)) u1.heap.size d1.k d1.n d1.s (.slice d1.A d1.m d1.c) := heap_alloc_new _ _
      generalize u1.alloc (.cells #[.int .i64 d1.k, .int .i64 d1.n, .string d1.s, .slice d1.A d1.m d1.c] 31) = w6 at *
      have hgb6 : u1.heap.size ≠ b := by have := HA1.out.sz; omega
      have hgW6 : u1.heap.size ≠ W.heap.size := by have := HA1.out.sz; omega
      generalize u1.heap.size = g6 at *
      have HC6 := Lib.hid hc6
      have HB6 := Lib.hid (HA1.out.ext hx6)
      have HR6 := Lib.hid (HR1.out.mv (Mv.of_ext hx6) hbW)
      clear hc6 hx6
      refine wp_region_E (fun _ => True) (fun X => Kp b W.heap.size w6 X) (fun _ => true) (by kernel_rfl) ?_
      obtain ⟨u1, hu9, hx9⟩ : ∃ x, w6.drew = x ∧ Ext w6 x := ⟨_, rfl, (Ext.refl _).drew⟩
      rw [hu9]
      clear hu9
      have HNX3 := Lib.hid (HC6.out.mv (Mv.of_ext hx9) hgb6)
      have HHT4 := Lib.hid (HR6.out.mv (Mv.of_ext hx9) hbW)
      have HA2 := Lib.hid (HB6.out.ext hx9)
      refine wpE_strong (T' := fun X => Kp b W.heap.size u1 X) (fun _ h9 => (Kp.of_ext _ hx9).trans h9) _ _ _ _ ?_
      clear hx9
      refine tkA (i := 1) (d := some 57) (v := ?_) (Kp.refl _ _ _) ?_ ?_; rotate_left
      · (intro w9 hT9; clear hT9; go_simp; try with_reducible rfl)
      (try simp only [Act.put, sA, sZ, sS])
      refine tkA (i := 5) (d := some 61) (v := ?_) (Kp.refl _ _ _) ?_ ?_; rotate_left
      · (intro w9 hT9; obtain ⟨_, q0, q1, q2, q3, _, _, _, _⟩ := (HNX3.out.kp hT9 hgb6 hgW6).nb; go_simp; try with_reducible rfl)
      (try simp only [Act.put, sA, sZ, sS])
      refine tkA (i := 6) (d := some 62) (v := ?_) (Kp.refl _ _ _) ?_ ?_; rotate_left
      · (intro w9 hT9; clear hT9; go_simp; try with_reducible rfl)
      (try simp only [Act.put, sA, sZ, sS])
      refine tkA (i := 7) (d := some 63) (v := ?_) (Kp.refl _ _ _) ?_ ?_; rotate_left
      · (intro w9 hT9; clear hT9; go_simp; try with_reducible rfl)
      (try simp only [Act.put, sA, sZ, sS])
      refine tkA (i := 8) (d := some 64) (v := ?_) (Kp.refl _ _ _) ?_ ?_; rotate_left
      · (intro w9 hT9; clear hT9; go_simp; try with_reducible rfl)
      (try simp only [Act.put, sA, sZ, sS])
      refine two (i := 0) (j := 2) (fun K hK => ?_) (fun K hK => ?_)
      · skip
        simp only [List.getElem_toArray, List.getElem_cons_zero]
        go_simp
        have hx6 : Ext u1 (u1.alloc (.cells #[.string ⟨#[108, 97, 116, 101, 114]⟩, .string ⟨#[101, 97, 114, 108, 105, 101, 114]⟩] 9)) := (Ext.refl _).alloc _
        have hn9 := SR.new u1 [wLater, wEarlier] #[.string ⟨#[108, 97, 116, 101, 114]⟩, .string ⟨#[101, 97, 114, 108, 105, 101, 114]⟩] rfl
        obtain ⟨u5, hu9⟩ : ∃ x, x = u1.alloc (.cells #[.string ⟨#[108, 97, 116, 101, 114]⟩, .string ⟨#[101, 97, 114, 108, 105, 101, 114]⟩] 9) := ⟨_, rfl⟩
        obtain ⟨g7, hg7⟩ : ∃ x, x = u1.heap.size := ⟨_, rfl⟩
        have hg7b : g7 ≠ b := by have := HA2.out.sz; omega
        have hg7W : g7 ≠ W.heap.size := by have := HA2.out.sz; omega
        rw [← hu9, ← hg7] at hn9
        rw [← hu9] at hx6 ⊢
        rw [← hg7]
        have HA8 := Lib.hid (HA2.out.ext hx6)
        have HN9 := Lib.hid hn9
        clear hu9 hn9 hg7
        have HNX10 := Lib.hid (HNX3.out.mv (Mv.of_ext hx6) hgb6)
        have HHT11 := Lib.hid (HHT4.out.mv (Mv.of_ext hx6) hbW)
        refine NextE.go (Z := Kp b W.heap.size) (u := u1) hK (Kp.of_ext _ hx6) (fun _ h9 => (Kp.of_ext _ hx6).trans h9) ?_
        clear hK K
        (try simp only [Act.put, sA, sZ, sS])
        try clear hx6
        refine one (i := 2) (fun K hK => ?_)
        simp only [List.getElem_toArray, List.getElem_cons_succ, List.getElem_cons_zero]
        go_simp
        go_at_call 44
        refine (HA8.out.nextI (by have := FN_up h1; omega) 2 2 rfl (by decide) (by decide)).mono ?_
        rintro e u13 ⟨k12, rfl, hk12, ha9, hm14⟩
        have HA15 := Lib.hid ha9
        clear ha9
        simp only []
        have hk12I : (k12 : Int) < 2 := by omega
        have hk12J : (0 : Int) ≤ (k12 : Int) := Int.natCast_nonneg _
        have HSR16 := Lib.hid (HN9.out.mv hm14 hg7b)
        have HNX17 := Lib.hid (HNX10.out.mv hm14 hgb6)
        have HHT18 := Lib.hid (HHT11.out.mv hm14 hbW)
        obtain ⟨s19, hs19⟩ : ∃ s, ([wLater, wEarlier] : List (List UInt8))[k12]? = some s := ⟨_, List.getElem?_eq_getElem (by simpa using hk12)⟩
        have Ms19 := Lib.hid (List.mem_of_getElem? hs19)
        have Gs19 := Lib.hid hs19
        obtain ⟨S20, hS20⟩ : ∃ S, S = bs s19 := ⟨_, rfl⟩
        have ES20 := Lib.hid hS20
        clear hs19 hS20
        refine NextE.go (Z := Kp b W.heap.size) (u := u5) hK (Kp.of_mv _ hm14) (fun _ h9 => (Kp.of_mv _ hm14).trans h9) ?_
        clear hK K
        (try simp only [Act.put, sA, sZ, sS])
        try clear hm14
        refine tkA (i := 3) (d := some 59) (v := ?_) (Kp.refl _ _ _) ?_ ?_; rotate_left
        · (intro w9 hT9; clear hT9; go_simp; try with_reducible rfl)
        (try simp only [Act.put, sA, sZ, sS])
        refine tkA (i := 4) (d := some 60) (v := ?_) (Kp.refl _ _ _) ?_ ?_; rotate_left
        · (intro w9 hT9; have q9 := (HSR16.out.kp hT9 hg7b hg7W).at_ _ _ Gs19.out; rw [← ES20.out] at q9; go_simp; try with_reducible rfl)
        (try simp only [Act.put, sA, sZ, sS])
        refine one (i := 9) (fun K hK => ?_)
        simp only [List.getElem_toArray, List.getElem_cons_succ, List.getElem_cons_zero]
        go_simp
        go_at_call 99
        refine (HS99.out h1 _ _ HA15.out (by have := FN_up h1; omega)).mono ?_
        rintro e u21 hp9
        obtain ⟨d24, t25, rfl, hr9, hg9, ha9, hm22⟩ := HA15.out.sub hp9
        have HA23 := Lib.hid ha9
        have HR26 := Lib.hid hr9
        have HGt25 := Lib.hid hg9
        clear hp9 ha9 hr9 hg9
        simp only []
        have HSR27 := Lib.hid (HSR16.out.mv hm22 hg7b)
        have HNX28 := Lib.hid (HNX17.out.mv hm22 hgb6)
        have HHT29 := Lib.hid (HHT18.out.mv hm22 hbW)
        refine NextE.go (Z := Kp b W.heap.size) (u := u13) hK (Kp.of_mv _ hm22) (fun _ h9 => (Kp.of_mv _ hm22).trans h9) ?_
        clear hK K
        (try simp only [Act.put, sA, sZ, sS])
        try clear hm22
        refine one (i := 10) (fun K hK => ?_)
        simp only [List.getElem_toArray, List.getElem_cons_succ, List.getElem_cons_zero]
        go_simp
        have hx31 : Ext u21 (u21.alloc (.cells #[.int .i64 d1.k, .int .i64 d1.n, .string d1.s, .slice d1.A d1.m d1.c, .int .i64 d24.k, .int .i64 d24.n, .string d24.s, .slice d24.A d24.m d24.c] 31)) := (Ext.refl _).alloc _
        have hn9 : ∀ (k n : Int) (s : List UInt8), HT W (u21.alloc (.cells #[.int .i64 d1.k, .int .i64 d1.n, .string d1.s, .slice d1.A d1.m d1.c, .int .i64 d24.k, .int .i64 d24.n, .string d24.s, .slice d24.A d24.m d24.c] 31)) ⟨k, n, bs s, some ⟨u21.heap.size, 0, none⟩, 2, 2⟩ (.nd k n s [t1, t25]) := fun k n s => HT.node HA23.out.sz k n s [d1, d24] [t1, t25] #[.int .i64 d1.k, .int .i64 d1.n, .string d1.s, .slice d1.A d1.m d1.c, .int .i64 d24.k, .int .i64 d24.n, .string d24.s, .slice d24.A d24.m d24.c] 2 rfl rfl (HT.kids2 HHT29.out HR26.out)
        obtain ⟨u30, hu9⟩ : ∃ x, x = u21.alloc (.cells #[.int .i64 d1.k, .int .i64 d1.n, .string d1.s, .slice d1.A d1.m d1.c, .int .i64 d24.k, .int .i64 d24.n, .string d24.s, .slice d24.A d24.m d24.c] 31) := ⟨_, rfl⟩
        obtain ⟨g32, hg32⟩ : ∃ x, x = u21.heap.size := ⟨_, rfl⟩
        have hg32b : g32 ≠ b := by have := HA23.out.sz; omega
        have hg32W : g32 ≠ W.heap.size := by have := HA23.out.sz; omega
        rw [← hu9, ← hg32] at hn9
        rw [← hu9] at hx31 ⊢
        rw [← hg32]
        have HA33 := Lib.hid (HA23.out.ext hx31)
        have HN34 := Lib.hid hn9
        clear hu9 hn9 hg32
        have HSR35 := Lib.hid (HSR27.out.mv (Mv.of_ext hx31) hg7b)
        have HNX36 := Lib.hid (HNX28.out.mv (Mv.of_ext hx31) hgb6)
        have HHT37 := Lib.hid (HHT29.out.mv (Mv.of_ext hx31) hbW)
        have HHT38 := Lib.hid (HR26.out.mv (Mv.of_ext hx31) hbW)
        refine NextE.go (Z := Kp b W.heap.size) (u := u21) hK (Kp.of_ext _ hx31) (fun _ h9 => (Kp.of_ext _ hx31).trans h9) ?_
        clear hK K
        (try simp only [Act.put, sA, sZ, sS])
        try clear hx31
        refine one (i := 11) (fun K hK => ?_)
        simp only [List.getElem_toArray, List.getElem_cons_succ, List.getElem_cons_zero]
        go_simp
        go_at_call 96
        refine (mnode_any _ _ _ _ _ _).mono ?_
        rintro e u39 ⟨rfl, hx40⟩
        simp only []
        have HSR42 := Lib.hid (HSR35.out.mv (Mv.of_ext hx40) hg7b)
        have HNX43 := Lib.hid (HNX36.out.mv (Mv.of_ext hx40) hgb6)
        have HHT44 := Lib.hid (HHT37.out.mv (Mv.of_ext hx40) hbW)
        have HHT45 := Lib.hid (HHT38.out.mv (Mv.of_ext hx40) hbW)
        have HRW46 := Lib.hid (fun k n s => (HN34.out k n s).mv (Mv.of_ext hx40) hbW)
        have HA41 := Lib.hid (HA33.out.ext hx40)
        refine NextE.go (Z := Kp b W.heap.size) (u := u30) hK (Kp.of_ext _ hx40) (fun _ h9 => (Kp.of_ext _ hx40).trans h9) ?_
        clear hK K
        (try simp only [Act.put, sA, sZ, sS])
        try clear hx40
        refine one (i := 12) (fun K hK => ?_)
        obtain ⟨_, z0, z1, z2, z3, z4, z5, z6, z7⟩ := HA41.out.nx.nb
        simp only [List.getElem_toArray, List.getElem_cons_succ, List.getElem_cons_zero]
        go_simp
        refine hK.out _ _ ⟨fun _ => trivial, Kp.set4 _ _ _ _⟩ (fun _ => ?_)
        clear hK K
        (try simp only [Act.put, sA, sZ, sS])
        refine wpE_done (by kernel_rfl) ?_ _
        go_wp2_with fail
        refine bodyPost_ret (v := .agg #[.int .i64 (10), .int .i64 0, .string S20, .slice (some ⟨g32, 0, none⟩) 2 2]) (by simp [results, Tryz.results99, go_sem, *]) rfl ?_
        exact HA41.out.fin (by have := FN_up h1; omega) ⟨10, 0, S20, some ⟨g32, 0, none⟩, 2, 2⟩ (.nd (10) 0 s19 [t1, t25]) (by rw [ES20.out]; exact HRW46.out _ 0 s19) (.up h1 (.call22 ((by decide : ∀ s ∈ ([wLater, wEarlier] : List (List UInt8)), s ∈ functions) _ Ms19.out) ((by decide : ∀ s ∈ ([wLater, wEarlier] : List (List UInt8)), argsN s = 2) _ Ms19.out) HGt1.out.1 HGt25.out.1) (by have := HGt25.out.2; have := HGt1.out.2; simp only [tszs]; omega))
      · skip
        simp only [List.getElem_toArray, List.getElem_cons_succ, List.getElem_cons_zero]
        go_simp
        go_at_call 44
        refine (HA2.out.nextI (by have := FN_up h1; omega) 2 2 rfl (by decide) (by decide)).mono ?_
        rintro e u48 ⟨k47, rfl, hk47, ha9, hm49⟩
        have HA50 := Lib.hid ha9
        clear ha9
        simp only []
        have hk47I : (k47 : Int) < 2 := by omega
        have hk47J : (0 : Int) ≤ (k47 : Int) := Int.natCast_nonneg _
        have HNX51 := Lib.hid (HNX3.out.mv hm49 hgb6)
        have HHT52 := Lib.hid (HHT4.out.mv hm49 hbW)
        refine NextE.go (Z := Kp b W.heap.size) (u := u1) hK (Kp.of_mv _ hm49) (fun _ h9 => (Kp.of_mv _ hm49).trans h9) ?_
        clear hK K
        (try simp only [Act.put, sA, sZ, sS])
        try clear hm49
        refine two (i := 0) (j := 9) (fun K hK => ?_) (fun K hK => ?_)
        · skip
          simp only [List.getElem_toArray, List.getElem_cons_zero]
          go_simp
          have hx54 : Ext u48 (u48.alloc (.cells #[.string ⟨#[108, 97, 116, 101, 114]⟩, .string ⟨#[101, 97, 114, 108, 105, 101, 114]⟩] 9)) := (Ext.refl _).alloc _
          have hn9 := SR.new u48 [wLater, wEarlier] #[.string ⟨#[108, 97, 116, 101, 114]⟩, .string ⟨#[101, 97, 114, 108, 105, 101, 114]⟩] rfl
          obtain ⟨u53, hu9⟩ : ∃ x, x = u48.alloc (.cells #[.string ⟨#[108, 97, 116, 101, 114]⟩, .string ⟨#[101, 97, 114, 108, 105, 101, 114]⟩] 9) := ⟨_, rfl⟩
          obtain ⟨g55, hg55⟩ : ∃ x, x = u48.heap.size := ⟨_, rfl⟩
          have hg55b : g55 ≠ b := by have := HA50.out.sz; omega
          have hg55W : g55 ≠ W.heap.size := by have := HA50.out.sz; omega
          rw [← hu9, ← hg55] at hn9
          rw [← hu9] at hx54 ⊢
          rw [← hg55]
          have HA56 := Lib.hid (HA50.out.ext hx54)
          have HN57 := Lib.hid hn9
          clear hu9 hn9 hg55
          have HNX58 := Lib.hid (HNX51.out.mv (Mv.of_ext hx54) hgb6)
          have HHT59 := Lib.hid (HHT52.out.mv (Mv.of_ext hx54) hbW)
          obtain ⟨s60, hs60⟩ : ∃ s, ([wLater, wEarlier] : List (List UInt8))[k47]? = some s := ⟨_, List.getElem?_eq_getElem (by simpa using hk47)⟩
          have Ms60 := Lib.hid (List.mem_of_getElem? hs60)
          have Gs60 := Lib.hid hs60
          obtain ⟨S61, hS61⟩ : ∃ S, S = bs s60 := ⟨_, rfl⟩
          have ES61 := Lib.hid hS61
          clear hs60 hS61
          refine NextE.go (Z := Kp b W.heap.size) (u := u48) hK (Kp.of_ext _ hx54) (fun _ h9 => (Kp.of_ext _ hx54).trans h9) ?_
          clear hK K
          (try simp only [Act.put, sA, sZ, sS])
          try clear hx54
          refine tkA (i := 3) (d := some 59) (v := ?_) (Kp.refl _ _ _) ?_ ?_; rotate_left
          · (intro w9 hT9; clear hT9; go_simp; try with_reducible rfl)
          (try simp only [Act.put, sA, sZ, sS])
          refine tkA (i := 4) (d := some 60) (v := ?_) (Kp.refl _ _ _) ?_ ?_; rotate_left
          · (intro w9 hT9; have q9 := (HN57.out.kp hT9 hg55b hg55W).at_ _ _ Gs60.out; rw [← ES61.out] at q9; go_simp; try with_reducible rfl)
          (try simp only [Act.put, sA, sZ, sS])
          refine one (i := 9) (fun K hK => ?_)
          simp only [List.getElem_toArray, List.getElem_cons_succ, List.getElem_cons_zero]
          go_simp
          go_at_call 99
          refine (HS99.out h1 _ _ HA56.out (by have := FN_up h1; omega)).mono ?_
          rintro e u62 hp9
          obtain ⟨d65, t66, rfl, hr9, hg9, ha9, hm63⟩ := HA56.out.sub hp9
          have HA64 := Lib.hid ha9
          have HR67 := Lib.hid hr9
          have HGt66 := Lib.hid hg9
          clear hp9 ha9 hr9 hg9
          simp only []
          have HSR68 := Lib.hid (HN57.out.mv hm63 hg55b)
          have HNX69 := Lib.hid (HNX58.out.mv hm63 hgb6)
          have HHT70 := Lib.hid (HHT59.out.mv hm63 hbW)
          refine NextE.go (Z := Kp b W.heap.size) (u := u53) hK (Kp.of_mv _ hm63) (fun _ h9 => (Kp.of_mv _ hm63).trans h9) ?_
          clear hK K
          (try simp only [Act.put, sA, sZ, sS])
          try clear hm63
          refine one (i := 10) (fun K hK => ?_)
          simp only [List.getElem_toArray, List.getElem_cons_succ, List.getElem_cons_zero]
          go_simp
          have hx72 : Ext u62 (u62.alloc (.cells #[.int .i64 d1.k, .int .i64 d1.n, .string d1.s, .slice d1.A d1.m d1.c, .int .i64 d65.k, .int .i64 d65.n, .string d65.s, .slice d65.A d65.m d65.c] 31)) := (Ext.refl _).alloc _
          have hn9 : ∀ (k n : Int) (s : List UInt8), HT W (u62.alloc (.cells #[.int .i64 d1.k, .int .i64 d1.n, .string d1.s, .slice d1.A d1.m d1.c, .int .i64 d65.k, .int .i64 d65.n, .string d65.s, .slice d65.A d65.m d65.c] 31)) ⟨k, n, bs s, some ⟨u62.heap.size, 0, none⟩, 2, 2⟩ (.nd k n s [t1, t66]) := fun k n s => HT.node HA64.out.sz k n s [d1, d65] [t1, t66] #[.int .i64 d1.k, .int .i64 d1.n, .string d1.s, .slice d1.A d1.m d1.c, .int .i64 d65.k, .int .i64 d65.n, .string d65.s, .slice d65.A d65.m d65.c] 2 rfl rfl (HT.kids2 HHT70.out HR67.out)
          obtain ⟨u71, hu9⟩ : ∃ x, x = u62.alloc (.cells #[.int .i64 d1.k, .int .i64 d1.n, .string d1.s, .slice d1.A d1.m d1.c, .int .i64 d65.k, .int .i64 d65.n, .string d65.s, .slice d65.A d65.m d65.c] 31) := ⟨_, rfl⟩
          obtain ⟨g73, hg73⟩ : ∃ x, x = u62.heap.size := ⟨_, rfl⟩
          have hg73b : g73 ≠ b := by have := HA64.out.sz; omega
          have hg73W : g73 ≠ W.heap.size := by have := HA64.out.sz; omega
          rw [← hu9, ← hg73] at hn9
          rw [← hu9] at hx72 ⊢
          rw [← hg73]
          have HA74 := Lib.hid (HA64.out.ext hx72)
          have HN75 := Lib.hid hn9
          clear hu9 hn9 hg73
          have HSR76 := Lib.hid (HSR68.out.mv (Mv.of_ext hx72) hg55b)
          have HNX77 := Lib.hid (HNX69.out.mv (Mv.of_ext hx72) hgb6)
          have HHT78 := Lib.hid (HHT70.out.mv (Mv.of_ext hx72) hbW)
          have HHT79 := Lib.hid (HR67.out.mv (Mv.of_ext hx72) hbW)
          refine NextE.go (Z := Kp b W.heap.size) (u := u62) hK (Kp.of_ext _ hx72) (fun _ h9 => (Kp.of_ext _ hx72).trans h9) ?_
          clear hK K
          (try simp only [Act.put, sA, sZ, sS])
          try clear hx72
          refine one (i := 11) (fun K hK => ?_)
          simp only [List.getElem_toArray, List.getElem_cons_succ, List.getElem_cons_zero]
          go_simp
          go_at_call 96
          refine (mnode_any _ _ _ _ _ _).mono ?_
          rintro e u80 ⟨rfl, hx81⟩
          simp only []
          have HSR83 := Lib.hid (HSR76.out.mv (Mv.of_ext hx81) hg55b)
          have HNX84 := Lib.hid (HNX77.out.mv (Mv.of_ext hx81) hgb6)
          have HHT85 := Lib.hid (HHT78.out.mv (Mv.of_ext hx81) hbW)
          have HHT86 := Lib.hid (HHT79.out.mv (Mv.of_ext hx81) hbW)
          have HRW87 := Lib.hid (fun k n s => (HN75.out k n s).mv (Mv.of_ext hx81) hbW)
          have HA82 := Lib.hid (HA74.out.ext hx81)
          refine NextE.go (Z := Kp b W.heap.size) (u := u71) hK (Kp.of_ext _ hx81) (fun _ h9 => (Kp.of_ext _ hx81).trans h9) ?_
          clear hK K
          (try simp only [Act.put, sA, sZ, sS])
          try clear hx81
          refine one (i := 12) (fun K hK => ?_)
          obtain ⟨_, z0, z1, z2, z3, z4, z5, z6, z7⟩ := HA82.out.nx.nb
          simp only [List.getElem_toArray, List.getElem_cons_succ, List.getElem_cons_zero]
          go_simp
          refine hK.out _ _ ⟨fun _ => trivial, Kp.set4 _ _ _ _⟩ (fun _ => ?_)
          clear hK K
          (try simp only [Act.put, sA, sZ, sS])
          refine wpE_done (by kernel_rfl) ?_ _
          go_wp2_with fail
          refine bodyPost_ret (v := .agg #[.int .i64 (10), .int .i64 0, .string S61, .slice (some ⟨g73, 0, none⟩) 2 2]) (by simp [results, Tryz.results99, go_sem, *]) rfl ?_
          exact HA82.out.fin (by have := FN_up h1; omega) ⟨10, 0, S61, some ⟨g73, 0, none⟩, 2, 2⟩ (.nd (10) 0 s60 [t1, t66]) (by rw [ES61.out]; exact HRW87.out _ 0 s60) (.up h1 (.call22 ((by decide : ∀ s ∈ ([wLater, wEarlier] : List (List UInt8)), s ∈ functions) _ Ms60.out) ((by decide : ∀ s ∈ ([wLater, wEarlier] : List (List UInt8)), argsN s = 2) _ Ms60.out) HGt1.out.1 HGt66.out.1) (by have := HGt66.out.2; have := HGt1.out.2; simp only [tszs]; omega))
        · skip
          simp only [List.getElem_toArray, List.getElem_cons_succ, List.getElem_cons_zero]
          go_simp
          go_at_call 99
          refine (HS99.out h1 _ _ HA50.out (by have := FN_up h1; omega)).mono ?_
          rintro e u88 hp9
          obtain ⟨d91, t92, rfl, hr9, hg9, ha9, hm89⟩ := HA50.out.sub hp9
          have HA90 := Lib.hid ha9
          have HR93 := Lib.hid hr9
          have HGt92 := Lib.hid hg9
          clear hp9 ha9 hr9 hg9
          simp only []
          have HNX94 := Lib.hid (HNX51.out.mv hm89 hgb6)
          have HHT95 := Lib.hid (HHT52.out.mv hm89 hbW)
          refine NextE.go (Z := Kp b W.heap.size) (u := u48) hK (Kp.of_mv _ hm89) (fun _ h9 => (Kp.of_mv _ hm89).trans h9) ?_
          clear hK K
          (try simp only [Act.put, sA, sZ, sS])
          try clear hm89
          refine two (i := 0) (j := 10) (fun K hK => ?_) (fun K hK => ?_)
          · skip
            simp only [List.getElem_toArray, List.getElem_cons_zero]
            go_simp
            have hx97 : Ext u88 (u88.alloc (.cells #[.string ⟨#[108, 97, 116, 101, 114]⟩, .string ⟨#[101, 97, 114, 108, 105, 101, 114]⟩] 9)) := (Ext.refl _).alloc _
            have hn9 := SR.new u88 [wLater, wEarlier] #[.string ⟨#[108, 97, 116, 101, 114]⟩, .string ⟨#[101, 97, 114, 108, 105, 101, 114]⟩] rfl
            obtain ⟨u96, hu9⟩ : ∃ x, x = u88.alloc (.cells #[.string ⟨#[108, 97, 116, 101, 114]⟩, .string ⟨#[101, 97, 114, 108, 105, 101, 114]⟩] 9) := ⟨_, rfl⟩
            obtain ⟨g98, hg98⟩ : ∃ x, x = u88.heap.size := ⟨_, rfl⟩
            have hg98b : g98 ≠ b := by have := HA90.out.sz; omega
            have hg98W : g98 ≠ W.heap.size := by have := HA90.out.sz; omega
            rw [← hu9, ← hg98] at hn9
            rw [← hu9] at hx97 ⊢
            rw [← hg98]
            have HA99 := Lib.hid (HA90.out.ext hx97)
            have HN100 := Lib.hid hn9
            clear hu9 hn9 hg98
            have HNX101 := Lib.hid (HNX94.out.mv (Mv.of_ext hx97) hgb6)
            have HHT102 := Lib.hid (HHT95.out.mv (Mv.of_ext hx97) hbW)
            have HHT103 := Lib.hid (HR93.out.mv (Mv.of_ext hx97) hbW)
            obtain ⟨s104, hs104⟩ : ∃ s, ([wLater, wEarlier] : List (List UInt8))[k47]? = some s := ⟨_, List.getElem?_eq_getElem (by simpa using hk47)⟩
            have Ms104 := Lib.hid (List.mem_of_getElem? hs104)
            have Gs104 := Lib.hid hs104
            obtain ⟨S105, hS105⟩ : ∃ S, S = bs s104 := ⟨_, rfl⟩
            have ES105 := Lib.hid hS105
            clear hs104 hS105
            refine NextE.go (Z := Kp b W.heap.size) (u := u88) hK (Kp.of_ext _ hx97) (fun _ h9 => (Kp.of_ext _ hx97).trans h9) ?_
            clear hK K
            (try simp only [Act.put, sA, sZ, sS])
            try clear hx97
            refine tkA (i := 3) (d := some 59) (v := ?_) (Kp.refl _ _ _) ?_ ?_; rotate_left
            · (intro w9 hT9; clear hT9; go_simp; try with_reducible rfl)
            (try simp only [Act.put, sA, sZ, sS])
            refine tkA (i := 4) (d := some 60) (v := ?_) (Kp.refl _ _ _) ?_ ?_; rotate_left
            · (intro w9 hT9; have q9 := (HN100.out.kp hT9 hg98b hg98W).at_ _ _ Gs104.out; rw [← ES105.out] at q9; go_simp; try with_reducible rfl)
            (try simp only [Act.put, sA, sZ, sS])
            refine one (i := 10) (fun K hK => ?_)
            simp only [List.getElem_toArray, List.getElem_cons_succ, List.getElem_cons_zero]
            go_simp
            have hx107 : Ext u96 (u96.alloc (.cells #[.int .i64 d1.k, .int .i64 d1.n, .string d1.s, .slice d1.A d1.m d1.c, .int .i64 d91.k, .int .i64 d91.n, .string d91.s, .slice d91.A d91.m d91.c] 31)) := (Ext.refl _).alloc _
            have hn9 : ∀ (k n : Int) (s : List UInt8), HT W (u96.alloc (.cells #[.int .i64 d1.k, .int .i64 d1.n, .string d1.s, .slice d1.A d1.m d1.c, .int .i64 d91.k, .int .i64 d91.n, .string d91.s, .slice d91.A d91.m d91.c] 31)) ⟨k, n, bs s, some ⟨u96.heap.size, 0, none⟩, 2, 2⟩ (.nd k n s [t1, t92]) := fun k n s => HT.node HA99.out.sz k n s [d1, d91] [t1, t92] #[.int .i64 d1.k, .int .i64 d1.n, .string d1.s, .slice d1.A d1.m d1.c, .int .i64 d91.k, .int .i64 d91.n, .string d91.s, .slice d91.A d91.m d91.c] 2 rfl rfl (HT.kids2 HHT102.out HHT103.out)
            obtain ⟨u106, hu9⟩ : ∃ x, x = u96.alloc (.cells #[.int .i64 d1.k, .int .i64 d1.n, .string d1.s, .slice d1.A d1.m d1.c, .int .i64 d91.k, .int .i64 d91.n, .string d91.s, .slice d91.A d91.m d91.c] 31) := ⟨_, rfl⟩
            obtain ⟨g108, hg108⟩ : ∃ x, x = u96.heap.size := ⟨_, rfl⟩
            have hg108b : g108 ≠ b := by have := HA99.out.sz; omega
            have hg108W : g108 ≠ W.heap.size := by have := HA99.out.sz; omega
            rw [← hu9, ← hg108] at hn9
            rw [← hu9] at hx107 ⊢
            rw [← hg108]
            have HA109 := Lib.hid (HA99.out.ext hx107)
            have HN110 := Lib.hid hn9
            clear hu9 hn9 hg108
            have HSR111 := Lib.hid (HN100.out.mv (Mv.of_ext hx107) hg98b)
            have HNX112 := Lib.hid (HNX101.out.mv (Mv.of_ext hx107) hgb6)
            have HHT113 := Lib.hid (HHT102.out.mv (Mv.of_ext hx107) hbW)
            have HHT114 := Lib.hid (HHT103.out.mv (Mv.of_ext hx107) hbW)
            refine NextE.go (Z := Kp b W.heap.size) (u := u96) hK (Kp.of_ext _ hx107) (fun _ h9 => (Kp.of_ext _ hx107).trans h9) ?_
            clear hK K
            (try simp only [Act.put, sA, sZ, sS])
            try clear hx107
            refine one (i := 11) (fun K hK => ?_)
            simp only [List.getElem_toArray, List.getElem_cons_succ, List.getElem_cons_zero]
            go_simp
            go_at_call 96
            refine (mnode_any _ _ _ _ _ _).mono ?_
            rintro e u115 ⟨rfl, hx116⟩
            simp only []
            have HSR118 := Lib.hid (HSR111.out.mv (Mv.of_ext hx116) hg98b)
            have HNX119 := Lib.hid (HNX112.out.mv (Mv.of_ext hx116) hgb6)
            have HHT120 := Lib.hid (HHT113.out.mv (Mv.of_ext hx116) hbW)
            have HHT121 := Lib.hid (HHT114.out.mv (Mv.of_ext hx116) hbW)
            have HRW122 := Lib.hid (fun k n s => (HN110.out k n s).mv (Mv.of_ext hx116) hbW)
            have HA117 := Lib.hid (HA109.out.ext hx116)
            refine NextE.go (Z := Kp b W.heap.size) (u := u106) hK (Kp.of_ext _ hx116) (fun _ h9 => (Kp.of_ext _ hx116).trans h9) ?_
            clear hK K
            (try simp only [Act.put, sA, sZ, sS])
            try clear hx116
            refine one (i := 12) (fun K hK => ?_)
            obtain ⟨_, z0, z1, z2, z3, z4, z5, z6, z7⟩ := HA117.out.nx.nb
            simp only [List.getElem_toArray, List.getElem_cons_succ, List.getElem_cons_zero]
            go_simp
            refine hK.out _ _ ⟨fun _ => trivial, Kp.set4 _ _ _ _⟩ (fun _ => ?_)
            clear hK K
            (try simp only [Act.put, sA, sZ, sS])
            refine wpE_done (by kernel_rfl) ?_ _
            go_wp2_with fail
            refine bodyPost_ret (v := .agg #[.int .i64 (10), .int .i64 0, .string S105, .slice (some ⟨g108, 0, none⟩) 2 2]) (by simp [results, Tryz.results99, go_sem, *]) rfl ?_
            exact HA117.out.fin (by have := FN_up h1; omega) ⟨10, 0, S105, some ⟨g108, 0, none⟩, 2, 2⟩ (.nd (10) 0 s104 [t1, t92]) (by rw [ES105.out]; exact HRW122.out _ 0 s104) (.up h1 (.call22 ((by decide : ∀ s ∈ ([wLater, wEarlier] : List (List UInt8)), s ∈ functions) _ Ms104.out) ((by decide : ∀ s ∈ ([wLater, wEarlier] : List (List UInt8)), argsN s = 2) _ Ms104.out) HGt1.out.1 HGt92.out.1) (by have := HGt92.out.2; have := HGt1.out.2; simp only [tszs]; omega))
          · skip
            simp only [List.getElem_toArray, List.getElem_cons_succ, List.getElem_cons_zero]
            go_simp
            have hx124 : Ext u88 (u88.alloc (.cells #[.int .i64 d1.k, .int .i64 d1.n, .string d1.s, .slice d1.A d1.m d1.c, .int .i64 d91.k, .int .i64 d91.n, .string d91.s, .slice d91.A d91.m d91.c] 31)) := (Ext.refl _).alloc _
            have hn9 : ∀ (k n : Int) (s : List UInt8), HT W (u88.alloc (.cells #[.int .i64 d1.k, .int .i64 d1.n, .string d1.s, .slice d1.A d1.m d1.c, .int .i64 d91.k, .int .i64 d91.n, .string d91.s, .slice d91.A d91.m d91.c] 31)) ⟨k, n, bs s, some ⟨u88.heap.size, 0, none⟩, 2, 2⟩ (.nd k n s [t1, t92]) := fun k n s => HT.node HA90.out.sz k n s [d1, d91] [t1, t92] #[.int .i64 d1.k, .int .i64 d1.n, .string d1.s, .slice d1.A d1.m d1.c, .int .i64 d91.k, .int .i64 d91.n, .string d91.s, .slice d91.A d91.m d91.c] 2 rfl rfl (HT.kids2 HHT95.out HR93.out)
            obtain ⟨u123, hu9⟩ : ∃ x, x = u88.alloc (.cells #[.int .i64 d1.k, .int .i64 d1.n, .string d1.s, .slice d1.A d1.m d1.c, .int .i64 d91.k, .int .i64 d91.n, .string d91.s, .slice d91.A d91.m d91.c] 31) := ⟨_, rfl⟩
            obtain ⟨g125, hg125⟩ : ∃ x, x = u88.heap.size := ⟨_, rfl⟩
            have hg125b : g125 ≠ b := by have := HA90.out.sz; omega
            have hg125W : g125 ≠ W.heap.size := by have := HA90.out.sz; omega
            rw [← hu9, ← hg125] at hn9
            rw [← hu9] at hx124 ⊢
            rw [← hg125]
            have HA126 := Lib.hid (HA90.out.ext hx124)
            have HN127 := Lib.hid hn9
            clear hu9 hn9 hg125
            have HNX128 := Lib.hid (HNX94.out.mv (Mv.of_ext hx124) hgb6)
            have HHT129 := Lib.hid (HHT95.out.mv (Mv.of_ext hx124) hbW)
            have HHT130 := Lib.hid (HR93.out.mv (Mv.of_ext hx124) hbW)
            refine NextE.go (Z := Kp b W.heap.size) (u := u88) hK (Kp.of_ext _ hx124) (fun _ h9 => (Kp.of_ext _ hx124).trans h9) ?_
            clear hK K
            (try simp only [Act.put, sA, sZ, sS])
            try clear hx124
            refine one (i := 0) (fun K hK => ?_)
            simp only [List.getElem_toArray, List.getElem_cons_zero]
            go_simp
            have hx132 : Ext u123 (u123.alloc (.cells #[.string ⟨#[108, 97, 116, 101, 114]⟩, .string ⟨#[101, 97, 114, 108, 105, 101, 114]⟩] 9)) := (Ext.refl _).alloc _
            have hn9 := SR.new u123 [wLater, wEarlier] #[.string ⟨#[108, 97, 116, 101, 114]⟩, .string ⟨#[101, 97, 114, 108, 105, 101, 114]⟩] rfl
            obtain ⟨u131, hu9⟩ : ∃ x, x = u123.alloc (.cells #[.string ⟨#[108, 97, 116, 101, 114]⟩, .string ⟨#[101, 97, 114, 108, 105, 101, 114]⟩] 9) := ⟨_, rfl⟩
            obtain ⟨g133, hg133⟩ : ∃ x, x = u123.heap.size := ⟨_, rfl⟩
            have hg133b : g133 ≠ b := by have := HA126.out.sz; omega
            have hg133W : g133 ≠ W.heap.size := by have := HA126.out.sz; omega
            rw [← hu9, ← hg133] at hn9
            rw [← hu9] at hx132 ⊢
            rw [← hg133]
            have HA134 := Lib.hid (HA126.out.ext hx132)
            have HN135 := Lib.hid hn9
            clear hu9 hn9 hg133
            have HNX136 := Lib.hid (HNX128.out.mv (Mv.of_ext hx132) hgb6)
            have HHT137 := Lib.hid (HHT129.out.mv (Mv.of_ext hx132) hbW)
            have HHT138 := Lib.hid (HHT130.out.mv (Mv.of_ext hx132) hbW)
            have HRW139 := Lib.hid (fun k n s => (HN127.out k n s).mv (Mv.of_ext hx132) hbW)
            obtain ⟨s140, hs140⟩ : ∃ s, ([wLater, wEarlier] : List (List UInt8))[k47]? = some s := ⟨_, List.getElem?_eq_getElem (by simpa using hk47)⟩
            have Ms140 := Lib.hid (List.mem_of_getElem? hs140)
            have Gs140 := Lib.hid hs140
            obtain ⟨S141, hS141⟩ : ∃ S, S = bs s140 := ⟨_, rfl⟩
            have ES141 := Lib.hid hS141
            clear hs140 hS141
            refine NextE.go (Z := Kp b W.heap.size) (u := u123) hK (Kp.of_ext _ hx132) (fun _ h9 => (Kp.of_ext _ hx132).trans h9) ?_
            clear hK K
            (try simp only [Act.put, sA, sZ, sS])
            try clear hx132
            refine tkA (i := 3) (d := some 59) (v := ?_) (Kp.refl _ _ _) ?_ ?_; rotate_left
            · (intro w9 hT9; clear hT9; go_simp; try with_reducible rfl)
            (try simp only [Act.put, sA, sZ, sS])
            refine tkA (i := 4) (d := some 60) (v := ?_) (Kp.refl _ _ _) ?_ ?_; rotate_left
            · (intro w9 hT9; have q9 := (HN135.out.kp hT9 hg133b hg133W).at_ _ _ Gs140.out; rw [← ES141.out] at q9; go_simp; try with_reducible rfl)
            (try simp only [Act.put, sA, sZ, sS])
            refine one (i := 11) (fun K hK => ?_)
            simp only [List.getElem_toArray, List.getElem_cons_succ, List.getElem_cons_zero]
            go_simp
            go_at_call 96
            refine (mnode_any _ _ _ _ _ _).mono ?_
            rintro e u142 ⟨rfl, hx143⟩
            simp only []
            have HSR145 := Lib.hid (HN135.out.mv (Mv.of_ext hx143) hg133b)
            have HNX146 := Lib.hid (HNX136.out.mv (Mv.of_ext hx143) hgb6)
            have HHT147 := Lib.hid (HHT137.out.mv (Mv.of_ext hx143) hbW)
            have HHT148 := Lib.hid (HHT138.out.mv (Mv.of_ext hx143) hbW)
            have HRW149 := Lib.hid (fun k n s => (HRW139.out k n s).mv (Mv.of_ext hx143) hbW)
            have HA144 := Lib.hid (HA134.out.ext hx143)
            refine NextE.go (Z := Kp b W.heap.size) (u := u131) hK (Kp.of_ext _ hx143) (fun _ h9 => (Kp.of_ext _ hx143).trans h9) ?_
            clear hK K
            (try simp only [Act.put, sA, sZ, sS])
            try clear hx143
            refine one (i := 12) (fun K hK => ?_)
            obtain ⟨_, z0, z1, z2, z3, z4, z5, z6, z7⟩ := HA144.out.nx.nb
            simp only [List.getElem_toArray, List.getElem_cons_succ, List.getElem_cons_zero]
            go_simp
            refine hK.out _ _ ⟨fun _ => trivial, Kp.set4 _ _ _ _⟩ (fun _ => ?_)
            clear hK K
            (try simp only [Act.put, sA, sZ, sS])
            refine wpE_done (by kernel_rfl) ?_ _
            go_wp2_with fail
            refine bodyPost_ret (v := .agg #[.int .i64 (10), .int .i64 0, .string S141, .slice (some ⟨g125, 0, none⟩) 2 2]) (by simp [results, Tryz.results99, go_sem, *]) rfl ?_
            exact HA144.out.fin (by have := FN_up h1; omega) ⟨10, 0, S141, some ⟨g125, 0, none⟩, 2, 2⟩ (.nd (10) 0 s140 [t1, t92]) (by rw [ES141.out]; exact HRW149.out _ 0 s140) (.up h1 (.call22 ((by decide : ∀ s ∈ ([wLater, wEarlier] : List (List UInt8)), s ∈ functions) _ Ms140.out) ((by decide : ∀ s ∈ ([wLater, wEarlier] : List (List UInt8)), argsN s = 2) _ Ms140.out) HGt1.out.1 HGt92.out.1) (by have := HGt92.out.2; have := HGt1.out.2; simp only [tszs]; omega))
    · have h1I : (1 : Int) ≤ (deep : Int) := by omega
      have hwd : IntKind.i64.wrap ((deep : Int) - 1) = (deep : Int) - 1 := IntWalk.i64_in _ (by omega)
      go_upto_region 19 with (first | (go_at_call 98; refine (HS98.out h1 _ _ HA.out (by have := FN_up h1; omega)).mono ?_; rintro e u1 hp; obtain ⟨d1, t1, rfl, hr9, hg9, ha9, hm1⟩ := HA.out.sub hp; have HA1 := Lib.hid ha9; have HR1 := Lib.hid hr9; have HGt1 := Lib.hid hg9; clear hp ha9 hr9 hg9))
      have hx6 : Ext u1 (u1.alloc (.cells #[.int .i64 d1.k, .int .i64 d1.n, .string d1.s, .slice d1.A d1.m d1.c] 31)) := (Ext.refl _).alloc _
      have hc6 : NX (u1.alloc (.cells #[.int .i64 d1.k, .int .i64 d1.n, .string d1.s, .slice d1.A d1.m d1.c] 31)) u1.heap.size d1.k d1.n d1.s (.slice d1.A d1.m d1.c) := heap_alloc_new _ _
      generalize u1.alloc (.cells #[.int .i64 d1.k, .int .i64 d1.n, .string d1.s, .slice d1.A d1.m d1.c] 31) = w6 at *
      have hgb6 : u1.heap.size ≠ b := by have := HA1.out.sz; omega
      have hgW6 : u1.heap.size ≠ W.heap.size := by have := HA1.out.sz; omega
      generalize u1.heap.size = g6 at *
      have HC6 := Lib.hid hc6
      have HB6 := Lib.hid (HA1.out.ext hx6)
      have HR6 := Lib.hid (HR1.out.mv (Mv.of_ext hx6) hbW)
      clear hc6 hx6
      go_upto_region 20 with (first | (go_at_call 99; refine (HS99.out h1 _ _ HB6.out (by have := FN_up h1; omega)).mono ?_; rintro e u2 hp; obtain ⟨d2, t2, rfl, hr9, hg9, ha9, hm2⟩ := HB6.out.sub hp; have HA2 := Lib.hid ha9; have HR2 := Lib.hid hr9; have HGt2 := Lib.hid hg9; clear hp ha9 hr9 hg9; have HC7 := Lib.hid (HC6.out.mv hm2 hgb6); have HR7 := Lib.hid (HR6.out.mv hm2 hbW)))
      have hx8 : Ext u2 (u2.alloc (.cells #[.int .i64 d2.k, .int .i64 d2.n, .string d2.s, .slice d2.A d2.m d2.c] 31)) := (Ext.refl _).alloc _
      have hc8 : NX (u2.alloc (.cells #[.int .i64 d2.k, .int .i64 d2.n, .string d2.s, .slice d2.A d2.m d2.c] 31)) u2.heap.size d2.k d2.n d2.s (.slice d2.A d2.m d2.c) := heap_alloc_new _ _
      generalize u2.alloc (.cells #[.int .i64 d2.k, .int .i64 d2.n, .string d2.s, .slice d2.A d2.m d2.c] 31) = w8 at *
      have hgb8 : u2.heap.size ≠ b := by have := HA2.out.sz; omega
      have hgW8 : u2.heap.size ≠ W.heap.size := by have := HA2.out.sz; omega
      generalize u2.heap.size = g8 at *
      have HC8 := Lib.hid hc8
      have HB8 := Lib.hid (HA2.out.ext hx8)
      have HC9 := Lib.hid (HC7.out.mv (Mv.of_ext hx8) hgb6)
      have HR9 := Lib.hid (HR7.out.mv (Mv.of_ext hx8) hbW)
      have HR8 := Lib.hid (HR2.out.mv (Mv.of_ext hx8) hbW)
      clear hc8 hx8
      refine wp_region_E (fun _ => True) (fun X => Kp b W.heap.size w8 X) (fun _ => true) (by kernel_rfl) ?_
      obtain ⟨u1, hu9, hx9⟩ : ∃ x, w8.drew = x ∧ Ext w8 x := ⟨_, rfl, (Ext.refl _).drew⟩
      rw [hu9]
      clear hu9
      have HNX3 := Lib.hid (HC9.out.mv (Mv.of_ext hx9) hgb6)
      have HNX4 := Lib.hid (HC8.out.mv (Mv.of_ext hx9) hgb8)
      have HHT5 := Lib.hid (HR9.out.mv (Mv.of_ext hx9) hbW)
      have HHT6 := Lib.hid (HR8.out.mv (Mv.of_ext hx9) hbW)
      have HA2 := Lib.hid (HB8.out.ext hx9)
      refine wpE_strong (T' := fun X => Kp b W.heap.size u1 X) (fun _ h9 => (Kp.of_ext _ hx9).trans h9) _ _ _ _ ?_
      clear hx9
      refine tkA (i := 0) (d := some 78) (v := ?_) (Kp.refl _ _ _) ?_ ?_; rotate_left
      · (intro w9 hT9; obtain ⟨_, q0, q1, q2, q3, _, _, _, _⟩ := (HNX3.out.kp hT9 hgb6 hgW6).nb; go_simp; try with_reducible rfl)
      (try simp only [Act.put, sA, sZ, sS])
      refine tkA (i := 1) (d := some 79) (v := ?_) (Kp.refl _ _ _) ?_ ?_; rotate_left
      · (intro w9 hT9; obtain ⟨_, q0, q1, q2, q3, _, _, _, _⟩ := (HNX4.out.kp hT9 hgb8 hgW8).nb; go_simp; try with_reducible rfl)
      (try simp only [Act.put, sA, sZ, sS])
      refine tkA (i := 2) (d := some 80) (v := ?_) (Kp.refl _ _ _) ?_ ?_; rotate_left
      · (intro w9 hT9; clear hT9; go_simp; try with_reducible rfl)
      (try simp only [Act.put, sA, sZ, sS])
      refine tkA (i := 3) (d := some 81) (v := ?_) (Kp.refl _ _ _) ?_ ?_; rotate_left
      · (intro w9 hT9; clear hT9; go_simp; try with_reducible rfl)
      (try simp only [Act.put, sA, sZ, sS])
      refine tkA (i := 4) (d := some 82) (v := ?_) (Kp.refl _ _ _) ?_ ?_; rotate_left
      · (intro w9 hT9; clear hT9; go_simp; try with_reducible rfl)
      (try simp only [Act.put, sA, sZ, sS])
      refine one (i := 5) (fun K hK => ?_)
      simp only [List.getElem_toArray, List.getElem_cons_succ, List.getElem_cons_zero]
      go_simp
      go_at_call 99
      refine (HS99.out h1 _ _ HA2.out (by have := FN_up h1; omega)).mono ?_
      rintro e u7 hp9
      obtain ⟨d10, t11, rfl, hr9, hg9, ha9, hm8⟩ := HA2.out.sub hp9
      have HA9 := Lib.hid ha9
      have HR12 := Lib.hid hr9
      have HGt11 := Lib.hid hg9
      clear hp9 ha9 hr9 hg9
      simp only []
      have HNX13 := Lib.hid (HNX3.out.mv hm8 hgb6)
      have HNX14 := Lib.hid (HNX4.out.mv hm8 hgb8)
      have HHT15 := Lib.hid (HHT5.out.mv hm8 hbW)
      have HHT16 := Lib.hid (HHT6.out.mv hm8 hbW)
      refine NextE.go (Z := Kp b W.heap.size) (u := u1) hK (Kp.of_mv _ hm8) (fun _ h9 => (Kp.of_mv _ hm8).trans h9) ?_
      clear hK K
      (try simp only [Act.put, sA, sZ, sS])
      try clear hm8
      refine one (i := 6) (fun K hK => ?_)
      simp only [List.getElem_toArray, List.getElem_cons_succ, List.getElem_cons_zero]
      go_simp
      have hx18 : Ext u7 (u7.alloc (.cells #[.int .i64 d1.k, .int .i64 d1.n, .string d1.s, .slice d1.A d1.m d1.c, .int .i64 d2.k, .int .i64 d2.n, .string d2.s, .slice d2.A d2.m d2.c, .int .i64 d10.k, .int .i64 d10.n, .string d10.s, .slice d10.A d10.m d10.c] 31)) := (Ext.refl _).alloc _
      have hn9 : ∀ (k n : Int) (s : List UInt8), HT W (u7.alloc (.cells #[.int .i64 d1.k, .int .i64 d1.n, .string d1.s, .slice d1.A d1.m d1.c, .int .i64 d2.k, .int .i64 d2.n, .string d2.s, .slice d2.A d2.m d2.c, .int .i64 d10.k, .int .i64 d10.n, .string d10.s, .slice d10.A d10.m d10.c] 31)) ⟨k, n, bs s, some ⟨u7.heap.size, 0, none⟩, 3, 3⟩ (.nd k n s [t1, t2, t11]) := fun k n s => HT.node HA9.out.sz k n s [d1, d2, d10] [t1, t2, t11] #[.int .i64 d1.k, .int .i64 d1.n, .string d1.s, .slice d1.A d1.m d1.c, .int .i64 d2.k, .int .i64 d2.n, .string d2.s, .slice d2.A d2.m d2.c, .int .i64 d10.k, .int .i64 d10.n, .string d10.s, .slice d10.A d10.m d10.c] 3 rfl rfl (HT.kids3 HHT15.out HHT16.out HR12.out)
      obtain ⟨u17, hu9⟩ : ∃ x, x = u7.alloc (.cells #[.int .i64 d1.k, .int .i64 d1.n, .string d1.s, .slice d1.A d1.m d1.c, .int .i64 d2.k, .int .i64 d2.n, .string d2.s, .slice d2.A d2.m d2.c, .int .i64 d10.k, .int .i64 d10.n, .string d10.s, .slice d10.A d10.m d10.c] 31) := ⟨_, rfl⟩
      obtain ⟨g19, hg19⟩ : ∃ x, x = u7.heap.size := ⟨_, rfl⟩
      have hg19b : g19 ≠ b := by have := HA9.out.sz; omega
      have hg19W : g19 ≠ W.heap.size := by have := HA9.out.sz; omega
      rw [← hu9, ← hg19] at hn9
      rw [← hu9] at hx18 ⊢
      rw [← hg19]
      have HA20 := Lib.hid (HA9.out.ext hx18)
      have HN21 := Lib.hid hn9
      clear hu9 hn9 hg19
      have HNX22 := Lib.hid (HNX13.out.mv (Mv.of_ext hx18) hgb6)
      have HNX23 := Lib.hid (HNX14.out.mv (Mv.of_ext hx18) hgb8)
      have HHT24 := Lib.hid (HHT15.out.mv (Mv.of_ext hx18) hbW)
      have HHT25 := Lib.hid (HHT16.out.mv (Mv.of_ext hx18) hbW)
      have HHT26 := Lib.hid (HR12.out.mv (Mv.of_ext hx18) hbW)
      refine NextE.go (Z := Kp b W.heap.size) (u := u7) hK (Kp.of_ext _ hx18) (fun _ h9 => (Kp.of_ext _ hx18).trans h9) ?_
      clear hK K
      (try simp only [Act.put, sA, sZ, sS])
      try clear hx18
      refine one (i := 7) (fun K hK => ?_)
      simp only [List.getElem_toArray, List.getElem_cons_succ, List.getElem_cons_zero]
      go_simp
      go_at_call 96
      refine (mnode_any _ _ _ _ _ _).mono ?_
      rintro e u27 ⟨rfl, hx28⟩
      simp only []
      have HNX30 := Lib.hid (HNX22.out.mv (Mv.of_ext hx28) hgb6)
      have HNX31 := Lib.hid (HNX23.out.mv (Mv.of_ext hx28) hgb8)
      have HHT32 := Lib.hid (HHT24.out.mv (Mv.of_ext hx28) hbW)
      have HHT33 := Lib.hid (HHT25.out.mv (Mv.of_ext hx28) hbW)
      have HHT34 := Lib.hid (HHT26.out.mv (Mv.of_ext hx28) hbW)
      have HRW35 := Lib.hid (fun k n s => (HN21.out k n s).mv (Mv.of_ext hx28) hbW)
      have HA29 := Lib.hid (HA20.out.ext hx28)
      refine NextE.go (Z := Kp b W.heap.size) (u := u17) hK (Kp.of_ext _ hx28) (fun _ h9 => (Kp.of_ext _ hx28).trans h9) ?_
      clear hK K
      (try simp only [Act.put, sA, sZ, sS])
      try clear hx28
      refine one (i := 8) (fun K hK => ?_)
      obtain ⟨_, z0, z1, z2, z3, z4, z5, z6, z7⟩ := HA29.out.nx.nb
      simp only [List.getElem_toArray, List.getElem_cons_succ, List.getElem_cons_zero]
      go_simp
      refine hK.out _ _ ⟨fun _ => trivial, Kp.set4 _ _ _ _⟩ (fun _ => ?_)
      clear hK K
      (try simp only [Act.put, sA, sZ, sS])
      refine wpE_done (by kernel_rfl) ?_ _
      go_wp2_with fail
      refine bodyPost_ret (v := .agg #[.int .i64 9, .int .i64 0, .string ⟨#[]⟩, .slice (some ⟨g19, 0, none⟩) 3 3]) (by simp [results, Tryz.results99, go_sem, *]) rfl ?_
      exact HA29.out.fin (by have := FN_up h1; omega) ⟨9, 0, ⟨#[]⟩, some ⟨g19, 0, none⟩, 3, 3⟩ (.nd 9 0 [] [t1, t2, t11]) (HRW35.out 9 0 []) (.up h1 (.ite2 HGt1.out.1 HGt2.out.1 HGt11.out.1) (by have := HGt11.out.2; have := HGt1.out.2; have := HGt2.out.2; simp only [tszs]; omega))
    · have b0 : (kk == 0) = false := beq_eq_false_iff_ne.2 (by omega)
      have b1 : (kk == 1) = false := beq_eq_false_iff_ne.2 (by omega)
      have b2 : (kk == 2) = false := beq_eq_false_iff_ne.2 (by omega)
      have b3 : (kk == 3) = false := beq_eq_false_iff_ne.2 (by omega)
      have b4 : (kk == 4) = false := beq_eq_false_iff_ne.2 (by omega)
      have b5 : (kk == 5) = false := beq_eq_false_iff_ne.2 (by omega)
      have b6 : (kk == 6) = false := beq_eq_false_iff_ne.2 (by omega)
      have h1I : (1 : Int) ≤ (deep : Int) := by omega
      have hwd : IntKind.i64.wrap ((deep : Int) - 1) = (deep : Int) - 1 := IntWalk.i64_in _ (by omega)
      go_upto_region 22 with (first | (go_at_call 99; refine (HS99.out h1 _ _ HA.out (by have := FN_up h1; omega)).mono ?_; rintro e u1 hp; obtain ⟨d1, t1, rfl, hr9, hg9, ha9, hm1⟩ := HA.out.sub hp; have HA1 := Lib.hid ha9; have HR1 := Lib.hid hr9; have HGt1 := Lib.hid hg9; clear hp ha9 hr9 hg9))
      have hx6 : Ext u1 (u1.alloc (.cells #[.int .i64 d1.k, .int .i64 d1.n, .string d1.s, .slice d1.A d1.m d1.c] 31)) := (Ext.refl _).alloc _
      have hc6 : NX (u1.alloc (.cells #[.int .i64 d1.k, .int .i64 d1.n, .string d1.s, .slice d1.A d1.m d1.c] 31)) u1.heap.size d1.k d1.n d1.s (.slice d1.A d1.m d1.c) := heap_alloc_new _ _
      generalize u1.alloc (.cells #[.int .i64 d1.k, .int .i64 d1.n, .string d1.s, .slice d1.A d1.m d1.c] 31) = w6 at *
      have hgb6 : u1.heap.size ≠ b := by have := HA1.out.sz; omega
      have hgW6 : u1.heap.size ≠ W.heap.size := by have := HA1.out.sz; omega
      generalize u1.heap.size = g6 at *
      have HC6 := Lib.hid hc6
      have HB6 := Lib.hid (HA1.out.ext hx6)
      have HR6 := Lib.hid (HR1.out.mv (Mv.of_ext hx6) hbW)
      clear hc6 hx6
      have hx2 : Ext w6 (w6.alloc (.cells #[.string ⟨#[100, 97, 121, 115]⟩, .string ⟨#[100, 97, 121, 115]⟩, .string ⟨#[99, 111, 117, 114, 116, 100, 97, 121, 115]⟩, .string ⟨#[119, 101, 101, 107, 115]⟩, .string ⟨#[109, 111, 110, 116, 104, 115]⟩] 9)) := (Ext.refl _).alloc _
      have hsr := SR.new w6 [wDays, wDays, wCourtdays, wWeeks, wMonths] #[.string ⟨#[100, 97, 121, 115]⟩, .string ⟨#[100, 97, 121, 115]⟩, .string ⟨#[99, 111, 117, 114, 116, 100, 97, 121, 115]⟩, .string ⟨#[119, 101, 101, 107, 115]⟩, .string ⟨#[109, 111, 110, 116, 104, 115]⟩] rfl
      have hgb : w6.heap.size ≠ b := by have := HB6.out.sz; omega
      have HA2 := Lib.hid (HB6.out.ext hx2)
      have HC7 := Lib.hid (HC6.out.mv (Mv.of_ext hx2) hgb6)
      have HR7 := Lib.hid (HR6.out.mv (Mv.of_ext hx2) hbW)
      go_upto_region 23 with (first
        | (go_at_call 44; refine (HA2.out.nextI (by have := FN_up h1; omega) 5 5 rfl (by decide) (by decide)).mono ?_; rintro e u2 ⟨k1, rfl, hk1, ha1, hm1⟩; have HA3 := Lib.hid ha1; have hk1I : (k1 : Int) < 5 := by omega
           obtain ⟨s1, hs1⟩ : ∃ s, ([wDays, wDays, wCourtdays, wWeeks, wMonths] : List (List UInt8))[k1]? = some s := ⟨_, List.getElem?_eq_getElem (by simpa using hk1)⟩
           have Ms1 := Lib.hid (List.mem_of_getElem? hs1)
           have q9 := (hsr.mv hm1 hgb).at_ _ _ hs1
           obtain ⟨S1, hS1⟩ : ∃ S, S = bs s1 := ⟨_, rfl⟩
           rw [← hS1] at q9
           have ES1 := Lib.hid hS1
           have HC8 := Lib.hid (HC7.out.mv hm1 hgb6)
           have HR8 := Lib.hid (HR7.out.mv hm1 hbW)
           clear hS1 hs1 hsr ha1 hm1))
      clear q9
      refine wp_region_E (fun _ => True) (fun X => Kp b W.heap.size u2 X) (fun _ => true) (by kernel_rfl) ?_
      obtain ⟨u1, hu9, hx9⟩ : ∃ x, u2.drew = x ∧ Ext u2 x := ⟨_, rfl, (Ext.refl _).drew⟩
      rw [hu9]
      clear hu9
      have HNX3 := Lib.hid (HC8.out.mv (Mv.of_ext hx9) hgb6)
      have HHT4 := Lib.hid (HR8.out.mv (Mv.of_ext hx9) hbW)
      have HA2 := Lib.hid (HA3.out.ext hx9)
      refine wpE_strong (T' := fun X => Kp b W.heap.size u1 X) (fun _ h9 => (Kp.of_ext _ hx9).trans h9) _ _ _ _ ?_
      clear hx9
      refine tkA (i := 0) (d := some 95) (v := ?_) (Kp.refl _ _ _) ?_ ?_; rotate_left
      · (intro w9 hT9; clear hT9; go_simp; try with_reducible rfl)
      (try simp only [Act.put, sA, sZ, sS])
      refine tkA (i := 4) (d := some 99) (v := ?_) (Kp.refl _ _ _) ?_ ?_; rotate_left
      · (intro w9 hT9; clear hT9; go_simp; try with_reducible rfl)
      (try simp only [Act.put, sA, sZ, sS])
      refine tkA (i := 5) (d := some 100) (v := ?_) (Kp.refl _ _ _) ?_ ?_; rotate_left
      · (intro w9 hT9; obtain ⟨_, q0, q1, q2, q3, _, _, _, _⟩ := (HNX3.out.kp hT9 hgb6 hgW6).nb; go_simp; try with_reducible rfl)
      (try simp only [Act.put, sA, sZ, sS])
      refine tkA (i := 6) (d := some 101) (v := ?_) (Kp.refl _ _ _) ?_ ?_; rotate_left
      · (intro w9 hT9; clear hT9; go_simp; try with_reducible rfl)
      (try simp only [Act.put, sA, sZ, sS])
      refine tkA (i := 7) (d := some 102) (v := ?_) (Kp.refl _ _ _) ?_ ?_; rotate_left
      · (intro w9 hT9; clear hT9; go_simp; try with_reducible rfl)
      (try simp only [Act.put, sA, sZ, sS])
      refine tkA (i := 8) (d := some 103) (v := ?_) (Kp.refl _ _ _) ?_ ?_; rotate_left
      · (intro w9 hT9; clear hT9; go_simp; try with_reducible rfl)
      (try simp only [Act.put, sA, sZ, sS])
      refine one (i := 1) (fun K hK => ?_)
      simp only [List.getElem_toArray, List.getElem_cons_succ, List.getElem_cons_zero]
      go_simp
      go_at_call 44
      refine (HA2.out.nextI (by have := FN_up h1; omega) 4 4 rfl (by decide) (by decide)).mono ?_
      rintro e u6 ⟨k5, rfl, hk5, ha9, hm7⟩
      have HA8 := Lib.hid ha9
      clear ha9
      simp only []
      have hk5I : (k5 : Int) < 4 := by omega
      have hk5J : (0 : Int) ≤ (k5 : Int) := Int.natCast_nonneg _
      have hk5W : IntKind.i64.wrap ((k5 : Int) / 3) = (k5 : Int) / 3 := IntWalk.i64_in _ (by omega)
      have hk5V : IntKind.i64.wrap (7 + (k5 : Int) / 3) = 7 + (k5 : Int) / 3 := IntWalk.i64_in _ (by omega)
      have HNX9 := Lib.hid (HNX3.out.mv hm7 hgb6)
      have HHT10 := Lib.hid (HHT4.out.mv hm7 hbW)
      refine NextE.go (Z := Kp b W.heap.size) (u := u1) hK (Kp.of_mv _ hm7) (fun _ h9 => (Kp.of_mv _ hm7).trans h9) ?_
      clear hK K
      (try simp only [Act.put, sA, sZ, sS])
      try clear hm7
      refine tkA (i := 2) (d := some 97) (v := ?_) (Kp.refl _ _ _) ?_ ?_; rotate_left
      · (intro w9 hT9; clear hT9; go_simp; try with_reducible rfl)
      (try simp only [Act.put, sA, sZ, sS])
      refine tkA (i := 3) (d := some 98) (v := ?_) (Kp.refl _ _ _) ?_ ?_; rotate_left
      · (intro w9 hT9; clear hT9; go_simp; try with_reducible rfl)
      (try simp only [Act.put, sA, sZ, sS])
      refine one (i := 9) (fun K hK => ?_)
      simp only [List.getElem_toArray, List.getElem_cons_succ, List.getElem_cons_zero]
      go_simp
      go_at_call 137
      refine (HS137.out h1 _ _ HA8.out (by have := FN_up h1; omega)).mono ?_
      rintro e u11 hp9
      obtain ⟨d14, t15, rfl, hr9, hg9, ha9, hm12⟩ := HA8.out.sub hp9
      have HA13 := Lib.hid ha9
      have HR16 := Lib.hid hr9
      have HGt15 := Lib.hid hg9
      clear hp9 ha9 hr9 hg9
      simp only []
      have HNX17 := Lib.hid (HNX9.out.mv hm12 hgb6)
      have HHT18 := Lib.hid (HHT10.out.mv hm12 hbW)
      refine NextE.go (Z := Kp b W.heap.size) (u := u6) hK (Kp.of_mv _ hm12) (fun _ h9 => (Kp.of_mv _ hm12).trans h9) ?_
      clear hK K
      (try simp only [Act.put, sA, sZ, sS])
      try clear hm12
      refine one (i := 10) (fun K hK => ?_)
      simp only [List.getElem_toArray, List.getElem_cons_succ, List.getElem_cons_zero]
      go_simp
      have hx20 : Ext u11 (u11.alloc (.cells #[.int .i64 d1.k, .int .i64 d1.n, .string d1.s, .slice d1.A d1.m d1.c, .int .i64 d14.k, .int .i64 d14.n, .string d14.s, .slice d14.A d14.m d14.c] 31)) := (Ext.refl _).alloc _
      have hn9 : ∀ (k n : Int) (s : List UInt8), HT W (u11.alloc (.cells #[.int .i64 d1.k, .int .i64 d1.n, .string d1.s, .slice d1.A d1.m d1.c, .int .i64 d14.k, .int .i64 d14.n, .string d14.s, .slice d14.A d14.m d14.c] 31)) ⟨k, n, bs s, some ⟨u11.heap.size, 0, none⟩, 2, 2⟩ (.nd k n s [t1, t15]) := fun k n s => HT.node HA13.out.sz k n s [d1, d14] [t1, t15] #[.int .i64 d1.k, .int .i64 d1.n, .string d1.s, .slice d1.A d1.m d1.c, .int .i64 d14.k, .int .i64 d14.n, .string d14.s, .slice d14.A d14.m d14.c] 2 rfl rfl (HT.kids2 HHT18.out HR16.out)
      obtain ⟨u19, hu9⟩ : ∃ x, x = u11.alloc (.cells #[.int .i64 d1.k, .int .i64 d1.n, .string d1.s, .slice d1.A d1.m d1.c, .int .i64 d14.k, .int .i64 d14.n, .string d14.s, .slice d14.A d14.m d14.c] 31) := ⟨_, rfl⟩
      obtain ⟨g21, hg21⟩ : ∃ x, x = u11.heap.size := ⟨_, rfl⟩
      have hg21b : g21 ≠ b := by have := HA13.out.sz; omega
      have hg21W : g21 ≠ W.heap.size := by have := HA13.out.sz; omega
      rw [← hu9, ← hg21] at hn9
      rw [← hu9] at hx20 ⊢
      rw [← hg21]
      have HA22 := Lib.hid (HA13.out.ext hx20)
      have HN23 := Lib.hid hn9
      clear hu9 hn9 hg21
      have HNX24 := Lib.hid (HNX17.out.mv (Mv.of_ext hx20) hgb6)
      have HHT25 := Lib.hid (HHT18.out.mv (Mv.of_ext hx20) hbW)
      have HHT26 := Lib.hid (HR16.out.mv (Mv.of_ext hx20) hbW)
      refine NextE.go (Z := Kp b W.heap.size) (u := u11) hK (Kp.of_ext _ hx20) (fun _ h9 => (Kp.of_ext _ hx20).trans h9) ?_
      clear hK K
      (try simp only [Act.put, sA, sZ, sS])
      try clear hx20
      refine one (i := 11) (fun K hK => ?_)
      simp only [List.getElem_toArray, List.getElem_cons_succ, List.getElem_cons_zero]
      go_simp
      go_at_call 96
      refine (mnode_any _ _ _ _ _ _).mono ?_
      rintro e u27 ⟨rfl, hx28⟩
      simp only []
      have HNX30 := Lib.hid (HNX24.out.mv (Mv.of_ext hx28) hgb6)
      have HHT31 := Lib.hid (HHT25.out.mv (Mv.of_ext hx28) hbW)
      have HHT32 := Lib.hid (HHT26.out.mv (Mv.of_ext hx28) hbW)
      have HRW33 := Lib.hid (fun k n s => (HN23.out k n s).mv (Mv.of_ext hx28) hbW)
      have HA29 := Lib.hid (HA22.out.ext hx28)
      refine NextE.go (Z := Kp b W.heap.size) (u := u19) hK (Kp.of_ext _ hx28) (fun _ h9 => (Kp.of_ext _ hx28).trans h9) ?_
      clear hK K
      (try simp only [Act.put, sA, sZ, sS])
      try clear hx28
      refine one (i := 12) (fun K hK => ?_)
      obtain ⟨_, z0, z1, z2, z3, z4, z5, z6, z7⟩ := HA29.out.nx.nb
      simp only [List.getElem_toArray, List.getElem_cons_succ, List.getElem_cons_zero]
      go_simp
      refine hK.out _ _ ⟨fun _ => trivial, Kp.set4 _ _ _ _⟩ (fun _ => ?_)
      clear hK K
      (try simp only [Act.put, sA, sZ, sS])
      refine wpE_done (by kernel_rfl) ?_ _
      go_wp2_with fail
      refine bodyPost_ret (v := .agg #[.int .i64 (7 + (k5 : Int) / 3), .int .i64 0, .string S1, .slice (some ⟨g21, 0, none⟩) 2 2]) (by simp [results, Tryz.results99, go_sem, *]) rfl ?_
      exact HA29.out.fin (by have := FN_up h1; omega) ⟨7 + (k5 : Int) / 3, 0, S1, some ⟨g21, 0, none⟩, 2, 2⟩ (.nd (7 + (k5 : Int) / 3) 0 s1 [t1, t15]) (by rw [ES1.out]; exact HRW33.out _ 0 s1) (.up h1 (.aft2 (by omega) ((by decide : ∀ s ∈ ([wDays, wDays, wCourtdays, wWeeks, wMonths] : List (List UInt8)), s ∈ units) _ Ms1.out) HGt1.out.1 HGt15.out.1) (by have := HGt15.out.2; have := HGt1.out.2; simp only [tszs]; omega))
end Go.Proofs.YtnpenepdechkjaaGreatDoor
