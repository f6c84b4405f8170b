/- The walk of the law FactsStrike. -/
import Derived.Test.YthjjdeabfnlbjaaLawL
import Derived.Test.YthjjdeabfnlbjaaLawD
import Derived.Test.YthjjdeabfnlbjaaPlain8
namespace Go.Proofs.Ythjjdeabfnlbjaa
open Go Go.RowKit Go.WideShapes

theorem at_any_eq (A : Option Addr) (n c : Nat) (l : List Vr) (op : Int) (W : World) (m' : List Fc) (hl : n ≤ 1000) (h : SV W W.heap.size A n l) (hen : ∀ k, k < n → 0 ≤ (vat l k).fc.en ∧ (vat l k).fc.en ≤ 5) (e : ∀ m, IsAt l op m → m = m') :
    Calls Try.prog 20 #[.slice A n c, .int .i64 op] W (RowF m' W) :=
  (at_any A n c l op W hl h hen).mono fun _ _ ⟨m, A', c', h1, h2, h3, h4, h5⟩ => by
    obtain rfl := e m h2
    exact ⟨A', c', h1, h3, h4.sf, h5⟩
/-- What a further version of the entries 0 to 5 keeps. -/
structure Few (l : List Vr) : Prop where
  ok : checkOf l = 0
  en : ∀ k, k < l.length → 0 ≤ (vat l k).fc.en ∧ (vat l k).fc.en ≤ 5
  kd : ∀ k, k < l.length → (vat l k).fc.kd.size ≤ maxLen
theorem Few.snoc {l : List Vr} {v : Vr} (h : Few l) (hw : wrongOf l v = 0) (he : 0 ≤ v.fc.en ∧ v.fc.en ≤ 5) (hk : v.fc.kd.size ≤ maxLen) : Few (l ++ [v]) := by
  have key : ∀ k, k < (l ++ [v]).length → (k < l.length ∧ vat (l ++ [v]) k = vat l k) ∨ vat (l ++ [v]) k = v := fun k hkk => by
    by_cases hl : k < l.length
    · exact .inl ⟨hl, vat_append_left hl⟩
    · obtain rfl : k = l.length := by simp at hkk; omega
      exact .inr (vat_append_last l v)
  refine ⟨by rw [checkOf_snoc l v h.ok]; exact hw, fun k hkk => ?_, fun k hkk => ?_⟩
  · rcases key k hkk with ⟨hl, e⟩ | e
    · rw [e]; exact h.en k hl
    · rw [e]; exact he
  · rcases key k hkk with ⟨hl, e⟩ | e
    · rw [e]; exact h.kd k hl
    · rw [e]; exact hk
theorem Vs.few {w1 : World} {A : Option Addr} {c : Nat} {L : List Vr} (h : Vs w1 A c L) : Few L := ⟨h.ok, h.en, h.kd⟩
theorem OV.sv2 {w : World} {base : Nat} {A : Option Addr} {n c : Nat} {l : List Vr} (h : OV w base (.slice A n c) l) : SV w w.heap.size A n l := by
  obtain ⟨h1, h2⟩ := OV.sv h
  rw [h1]; exact h2
theorem app_ok (A : Option Addr) (n c : Nat) (l : List Vr) (v : Vr) (W : World) (hl : n ≤ 1000) (h : SV W W.heap.size A n l) (hf : Few l) (hs : v.fc.kd.size ≤ maxLen) (hw : wrongOf l v = 0) :
    Calls Try.prog 16 #[.slice A n c, v.val] W fun e w' => (∃ A' c', e = .returned (.tuple #[.slice A' (n + 1) c', .int .i64 0]) ∧ SV w' w'.heap.size A' (n + 1) (l ++ [v])) ∧ Ext W w' := by
  obtain rfl : l.length = n := h.1
  exact (pappend_any A _ c l v W hl h hs hf.kd hf.ok).mono fun _ _ ⟨h1, h2⟩ => ⟨by
    rcases h1 with ⟨h3, _⟩ | ⟨_, A', c', h4, h5⟩
    · exact absurd hw h3
    · exact ⟨A', c', h4, h5.sv2⟩, h2⟩
theorem app_no (A : Option Addr) (n c : Nat) (l : List Vr) (v : Vr) (W : World) (hl : n ≤ 1000) (h : SV W W.heap.size A n l) (hf : Few l) (hs : v.fc.kd.size ≤ maxLen) (r : Int) (hw : wrongOf l v = r) (hr : r ≠ 0) :
    Calls Try.prog 16 #[.slice A n c, v.val] W fun e w' => e = .returned (.tuple #[.slice none 0 0, .int .i64 r]) ∧ Ext W w' := by
  obtain rfl : l.length = n := h.1
  exact (pappend_any A _ c l v W hl h hs hf.kd hf.ok).mono fun _ _ ⟨h1, h2⟩ => ⟨by
    rcases h1 with ⟨_, h4⟩ | ⟨h3, _⟩
    · rw [← hw]; exact h4
    · exact absurd (hw.symm.trans h3) hr, h2⟩

set_option maxRecDepth 100000 in
set_option maxHeartbeats 2000000 in
theorem strike_walk (A : Option Addr) (n c : Nat) (f : Nat → Int) (wh : Int) (w : World) (he1 : -9223372036854775808 ≤ wh) (he2 : wh ≤ 9223372036854775807) (hn : n ≤ maxLen) (hnc : n ≤ c) (hcm : c ≤ maxLen) (h : SI w w.heap.size A n f) :
    Calls Try.prog 10 #[.slice A n c, .int .i64 wh] w fun e w' => e = .returned (.bool true) ∧ Ext w w' := by
  have HS := Lib.hid h; clear h
  go_enter Try.func10, Try.ntmps10
  go_wp2_with fail
  refine (vs_any A n c f w _ hn hnc hcm HS.out (Ext.refl _)).mono ?_
  rintro e w1 ⟨L, A1, c1, top, rfl, hv, hg, ht0, ht2, hx1⟩
  have HV := Lib.hid hv
  have HX1 := Lib.hid hx1
  have HG := Lib.hid hg
  have hL := hv.n40
  clear hv hx1 HS hg
  by_cases hL0 : L.length = 0
  · have hz : ((L.length : Int) == 0) = true := by rw [beq_iff_eq]; omega
    have HZ := Lib.hid hL0; clear hL0
    go_wp2_with fail
    refine (lives_any _).mono ?_
    rintro e w2 ⟨rfl, hx2⟩
    go_wp2
    go_ret
    exact ⟨rfl, HX1.out.trans hx2⟩
  have hz : ((L.length : Int) == 0) = false := by rw [beq_eq_false_iff_ne]; omega
  have hp1 : (0 : Int) ≤ (L.length : Int) - 1 := by omega
  have hp2 : (L.length : Int) - 1 < L.length := by omega
  have hp3 : ((L.length : Int) - 1).toNat = L.length - 1 := by omega
  obtain ⟨b, off, rfl, hb, v0, v1, v2, v3, v4, v5, v6, v7⟩ := SV.at_ HV.out.sv (k := L.length - 1) (by omega)
  have hops := HG.out.ops (L.length - 1) (by omega)
  have hstr := fun (x : Fc) hx hfx hen => strike_of (L := L) (x := x) HV.out.ok (by omega) hops.1 hx hfx hen
  have HFEW := Lib.hid HV.out.few
  have hxf : ∀ x, x ∈ atL L (vat L (L.length - 1)).op → okF x = true ∧ 0 ≤ x.en ∧ x.en ≤ 5 := fun x hx => by
    obtain ⟨v, h1, h2, h3⟩ := ((atL_at L _).mem x).1 hx
    obtain ⟨j, hj, rfl⟩ := mem_vat (List.mem_filter.1 (lastOf_some h1).1).1
    have := HV.out.fact j hj
    rwa [h3] at this
  revert v0 hops hstr hxf
  generalize hE : (vat L (L.length - 1)).op = e0
  intro v0 hops hstr hxf
  have hst2 : ∀ x, x ∈ atL L e0 → Strike L e0 x := fun x hx => hstr x hx (hxf x hx).1 (hxf x hx).2
  have he0 : 0 ≤ e0 := hops.1
  have he3 : e0 ≤ 200 := by omega
  have HST := Lib.hid hst2
  have HXF := Lib.hid hxf
  clear hstr hst2 hxf hops HG hE
  go_wp2_with fail
  refine (HV.out.at20 e0 _ (Ext.refl _)).mono ?_
  rintro e w2 ⟨A3, c3, rfl, hl3, hs3, hx3⟩
  have HS3 := Lib.hid hs3
  have HX3 := Lib.hid hx3
  have HSV := Lib.hid (HV.out.at_ hx3)
  clear hs3 hx3 v0 v1 v2 v3 v4 v5 v6 v7 hz hp1 hp2 hp3 HV
  revert hl3 HS3 HST HXF
  have hatl : ∀ m, m = atL L e0 → m = ratOf (upto L e0) (upto L e0).length := fun m h => h
  revert hatl
  generalize atL L e0 = a
  intro hatl HST HXF hl3 HS3
  have HATL := Lib.hid (hatl a rfl)
  clear hatl
  by_cases ha0 : a.length = 0
  · have hz2 : ((a.length : Int) == 0) = true := by rw [beq_iff_eq]; omega
    have HZ := Lib.hid ha0; clear ha0
    go_wp2_with fail
    refine (lives_any _).mono ?_
    rintro e w4 ⟨rfl, hx4⟩
    go_wp2
    go_ret
    exact ⟨rfl, HX1.out.trans (HX3.out.trans hx4)⟩
  have hz2 : ((a.length : Int) == 0) = false := by rw [beq_eq_false_iff_ne]; omega
  go_wp2_with fail
  refine (around_any wh (a.length : Int) _ he1 he2 (by omega) (by omega)).mono ?_
  rintro e w4 ⟨r, rfl, hr1, hr2, rfl⟩
  obtain ⟨k, rfl⟩ := Int.eq_ofNat_of_zero_le hr1
  have hk : k < a.length := by omega
  obtain ⟨ba, offa, rfl, hba, d0, d1, d2, d3, d4, d5⟩ := SF.at_ HS3.out (k := k) hk
  have hmem := fat_mem hk
  obtain ⟨hw1, hw2, hw3, ha1, ha2, ha3⟩ := HST.out _ hmem
  obtain ⟨hokx, hen1, hen2⟩ := HXF.out _ hmem
  have hkx : (fat a k).kd.size ≤ maxLen := by have := okF_size hokx; simp only [maxLen]; omega
  rw [← HATL.out] at ha1 ha2 ha3
  revert d0 d1 d2 d3 d4 d5 hw1 hw2 hw3 ha1 ha2 ha3 hokx hen1 hen2 hkx
  generalize fat a k = x
  intro d0 d1 d2 d3 d4 d5 hw1 hw2 hw3 ha1 ha2 ha3 hokx hen1 hen2 hkx
  have HW1 := Lib.hid hw1
  have HW2 := Lib.hid hw2
  have HW3 := Lib.hid hw3
  have HA1 := Lib.hid ha1
  have HA2 := Lib.hid ha2
  have HA3 := Lib.hid ha3
  have hf1 := HFEW.out.snoc hw1 ⟨hen1, hen2⟩ (Nat.zero_le _)
  have HF1 := Lib.hid hf1
  have HF2 := Lib.hid (hf1.snoc hw3 ⟨hen1, hen2⟩ hkx)
  clear hw1 hw2 hw3 ha1 ha2 ha3 hf1 hmem HST HXF HATL hokx
  go_wp2_with fail
  refine (app_ok (some ⟨b, off, none⟩) _ c1 L ⟨e0, true, ⟨x.en, ⟨#[]⟩, 0, 0, 0, 0⟩⟩ _ (by omega) (SV.lift HSV.out (Nat.le_refl _) ((Ext.refl w2).alloc _)) HFEW.out (Nat.zero_le _) HW1.out).mono ?_
  rintro e w5 ⟨⟨A5, c5, rfl, hs5⟩, hx5⟩
  have HS5 := Lib.hid hs5
  have HBX := Lib.hid ((Box.new w2 x).ext hx5)
  have hx25 := ((Ext.refl w2).alloc (.cells #[.int .i64 x.en, .string x.kd, .int .i64 x.day, .int .i64 x.byy, .int .i64 x.too, .int .i64 x.am] 30)).trans hx5
  have HA := Lib.hid (SF.lift HS3.out (Nat.le_refl _) hx25)
  have HY := Lib.hid (HX1.out.trans (HX3.out.trans hx25))
  clear hs5 hx5 hx25 d0 d1 d2 d3 d4 d5 HS3 HX1 HX3 HSV HFEW HW1 hr1 hr2
  revert HS5 HW2 HW3 HA1 HA2 HA3 HF1 HF2
  generalize L ++ [⟨e0, true, ⟨x.en, ⟨#[]⟩, 0, 0, 0, 0⟩⟩] = S1
  intro HW2 HW3 HA1 HA2 HA3 HF1 HF2 HS5
  have hS1 : L.length + 1 = S1.length := HS5.out.1.symm
  have hen3 : ∀ k, k < L.length + 1 → 0 ≤ (vat S1 k).fc.en ∧ (vat S1 k).fc.en ≤ 5 := by rw [hS1]; exact HF1.out.en
  have HEN := Lib.hid hen3
  clear hS1 hen3
  go_upto_region 10 with (fail)
  go_cut [64] (fun s64 wx => s64 = .bool false ∧ Ext w5 wx)
  case first =>
    refine wp_region_E (fun _ => True) (fun w' => Ext w5 w') (fun _ => true) (by kernel_rfl) ?_
    obtain ⟨u0, hu0, hU0⟩ : ∃ u0, w5.drew = u0 ∧ Ext w5 u0 := ⟨_, rfl, (Ext.refl w5).drew⟩
    rw [hu0]; clear hu0
    refine wpE_takeT (i := 0) (d := some 52) (v := .int .i64 0) rfl rfl (by kernel_rfl) (by kernel_rfl) (by kernel_rfl) rfl (fun _ _ _ h => h) (by rfl) ?hy1 hU0 ?go1
    case hy1 =>
      intro w9 hT9
      clear hT9
      go_simp
    (try simp only [Act.put, List.setIfInBounds_toArray, List.set_cons_zero, List.set_cons_succ])
    refine wpE_takeT (i := 1) (d := some 53) (v := .bool false) rfl rfl (by kernel_rfl) (by kernel_rfl) (by kernel_rfl) rfl (fun _ _ _ h => h) (by rfl) ?hy2 hU0 ?go2
    case hy2 =>
      intro w9 hT9
      clear hT9
      go_simp
    (try simp only [Act.put, List.setIfInBounds_toArray, List.set_cons_zero, List.set_cons_succ])
    refine wpE_takeT (i := 2) (d := some 54) (v := .bool false) rfl rfl (by kernel_rfl) (by kernel_rfl) (by kernel_rfl) rfl (fun _ _ _ h => h) (by rfl) ?hy3 hU0 ?go3
    case hy3 =>
      intro w9 hT9
      clear hT9
      go_simp
    (try simp only [Act.put, List.setIfInBounds_toArray, List.set_cons_zero, List.set_cons_succ])
    refine wpE_takeT (i := 3) (d := some 55) (v := .slice A5 (L.length + 1) c5) rfl rfl (by kernel_rfl) (by kernel_rfl) (by kernel_rfl) rfl (fun _ _ _ h => h) (by rfl) ?hy4 hU0 ?go4
    case hy4 =>
      intro w9 hT9
      clear hT9
      go_simp
    (try simp only [Act.put, List.setIfInBounds_toArray, List.set_cons_zero, List.set_cons_succ])
    refine wpE_takeT (i := 4) (d := some 56) (v := .int .i64 e0) rfl rfl (by kernel_rfl) (by kernel_rfl) (by kernel_rfl) rfl (fun _ _ _ h => h) (by rfl) ?hy5 hU0 ?go5
    case hy5 =>
      intro w9 hT9
      clear hT9
      go_simp
    (try simp only [Act.put, List.setIfInBounds_toArray, List.set_cons_zero, List.set_cons_succ])
    refine wpE_takeT (i := 6) (d := some 58) (v := .slice (some ⟨ba, offa, none⟩) a.length c3) rfl rfl (by kernel_rfl) (by kernel_rfl) (by kernel_rfl) rfl (fun _ _ _ h => h) (by rfl) ?hy6 hU0 ?go6
    case hy6 =>
      intro w9 hT9
      clear hT9
      go_simp
    (try simp only [Act.put, List.setIfInBounds_toArray, List.set_cons_zero, List.set_cons_succ])
    refine wpE_takeT (i := 7) (d := some 59) (v := .agg #[.int .i64 x.en, .string x.kd, .int .i64 x.day, .int .i64 x.byy, .int .i64 x.too, .int .i64 x.am]) rfl rfl (by kernel_rfl) (by kernel_rfl) (by kernel_rfl) rfl (fun _ _ _ h => h) (by rfl) ?hy7 hU0 ?go7
    case hy7 =>
      intro w9 hT9
      obtain ⟨_, g0, g1, g2, g3, g4, g5⟩ := HBX.out.ext hT9
      clear hT9
      go_simp
    (try simp only [Act.put, List.setIfInBounds_toArray, List.set_cons_zero, List.set_cons_succ])
    refine wpE_all (rs := [5, 8]) (by kernel_rfl) (by simp) ?_
    refine AllE.cons rfl (fun K hK => ?_) ?_
    · simp only [List.getElem_toArray, List.getElem_cons_succ, List.getElem_cons_zero]
      go_simp; go_at_call 20
      refine (at_any_eq A5 _ c5 S1 e0 _ (wout a [x]) (by omega) (SV.lift HS5.out (Nat.le_refl _) hU0) HEN.out HA1.out).mono ?_
      rintro e ua ⟨A7, q7, rfl, hl7, hs7, hx7⟩
      simp only []
      have hU7 := hU0.trans hx7
      refine hK.out _ _ ⟨fun _ => trivial, hU7⟩ (fun _ => ?_)
      clear hK K
      (try simp only [Act.put, List.setIfInBounds_toArray, List.set_cons_zero, List.set_cons_succ])
      refine wpE_all (rs := [8]) (by kernel_rfl) (by simp) ?_
      refine AllE.cons rfl (fun K hK => ?_) AllE.nil
      simp only [List.getElem_toArray, List.getElem_cons_succ, List.getElem_cons_zero]
      go_simp
      have hU8 := hU7.alloc (.cells #[.int .i64 x.en, .string x.kd, .int .i64 x.day, .int .i64 x.byy, .int .i64 x.too, .int .i64 x.am] 30)
      refine hK.out _ _ ⟨fun _ => trivial, hU8⟩ (fun _ => ?_)
      clear hK K
      (try simp only [Act.put, List.setIfInBounds_toArray, List.set_cons_zero, List.set_cons_succ])
      refine wpE_all (rs := [9]) (by kernel_rfl) (by simp) ?_
      refine AllE.cons rfl (fun K hK => ?_) AllE.nil
      simp only [List.getElem_toArray, List.getElem_cons_succ, List.getElem_cons_zero]
      go_simp; go_at_call 28
      refine (wo_any _ _ c3 1 a [x] (wout a [x]) _ hl3 (by simp) (SF.lift HA.out (Nat.le_refl _) hU8) ((SF.one ua x 30).more (by simp)) rfl).mono ?_
      rintro e ub ⟨A9, q9, rfl, hl9, hs9, hx9⟩
      simp only []
      have hU9 := hU8.trans hx9
      refine hK.out _ _ ⟨fun _ => trivial, hU9⟩ (fun _ => ?_)
      clear hK K
      (try simp only [Act.put, List.setIfInBounds_toArray, List.set_cons_zero, List.set_cons_succ])
      refine wpE_all (rs := [10]) (by kernel_rfl) (by simp) ?_
      refine AllE.cons rfl (fun K hK => ?_) AllE.nil
      simp only [List.getElem_toArray, List.getElem_cons_succ, List.getElem_cons_zero]
      go_simp; go_at_call 19
      refine (sameF_eq _ A7 A9 q7 q9 _ _ (SF.lift hs7 (Nat.le_refl _) (((Ext.refl ua).alloc (.cells #[.int .i64 x.en, .string x.kd, .int .i64 x.day, .int .i64 x.byy, .int .i64 x.too, .int .i64 x.am] 30)).trans hx9)) hs9 (by omega) (by omega) rfl).mono ?_
      rintro e uc ⟨rfl, hx10⟩
      simp only []
      have hU10 := hU9.trans hx10
      refine hK.out _ _ ⟨fun _ => trivial, hU10⟩ (fun _ => ?_)
      clear hK K
      (try simp only [Act.put, List.setIfInBounds_toArray, List.set_cons_zero, List.set_cons_succ])
      refine wpE_takeT (i := 11) (d := some 63) (v := .bool false) rfl rfl (by kernel_rfl) (by kernel_rfl) (by kernel_rfl) rfl (fun _ _ _ h => h) (by rfl) ?hy8 hU10 ?go8
      case hy8 =>
        intro w9 hT9
        clear hT9
        go_simp
      (try simp only [Act.put, List.setIfInBounds_toArray, List.set_cons_zero, List.set_cons_succ])
      refine wpE_takeT (i := 12) (d := some 64) (v := .bool false) rfl rfl (by kernel_rfl) (by kernel_rfl) (by kernel_rfl) rfl (fun _ _ _ h => h) (by rfl) ?hy9 hU10 ?go9
      case hy9 =>
        intro w9 hT9
        clear hT9
        go_simp
      (try simp only [Act.put, List.setIfInBounds_toArray, List.set_cons_zero, List.set_cons_succ])
      refine wpE_done (by kernel_rfl) ?_ _
      go_wp2_with fail
      go_meet
      case rel => exact ⟨rfl, hU10⟩
    refine AllE.cons rfl (fun K hK => ?_) ?_
    · simp only [List.getElem_toArray, List.getElem_cons_succ, List.getElem_cons_zero]
      go_simp
      have hU8 := hU0.alloc (.cells #[.int .i64 x.en, .string x.kd, .int .i64 x.day, .int .i64 x.byy, .int .i64 x.too, .int .i64 x.am] 30)
      refine hK.out _ _ ⟨fun _ => trivial, hU8⟩ (fun _ => ?_)
      clear hK K
      (try simp only [Act.put, List.setIfInBounds_toArray, List.set_cons_zero, List.set_cons_succ])
      refine wpE_all (rs := [5]) (by kernel_rfl) (by simp) ?_
      refine AllE.cons rfl (fun K hK => ?_) AllE.nil
      simp only [List.getElem_toArray, List.getElem_cons_succ, List.getElem_cons_zero]
      go_simp; go_at_call 20
      refine (at_any_eq A5 _ c5 S1 e0 _ (wout a [x]) (by omega) (SV.lift HS5.out (Nat.le_refl _) hU8) HEN.out HA1.out).mono ?_
      rintro e ua ⟨A7, q7, rfl, hl7, hs7, hx7⟩
      simp only []
      have hU7 := hU8.trans hx7
      refine hK.out _ _ ⟨fun _ => trivial, hU7⟩ (fun _ => ?_)
      clear hK K
      (try simp only [Act.put, List.setIfInBounds_toArray, List.set_cons_zero, List.set_cons_succ])
      refine wpE_all (rs := [9]) (by kernel_rfl) (by simp) ?_
      refine AllE.cons rfl (fun K hK => ?_) AllE.nil
      simp only [List.getElem_toArray, List.getElem_cons_succ, List.getElem_cons_zero]
      go_simp; go_at_call 28
      refine (wo_any _ _ c3 1 a [x] (wout a [x]) _ hl3 (by simp) (SF.lift HA.out (Nat.le_refl _) hU7) (((SF.one u0 x 30).more (by simp)).lift (Nat.le_refl _) hx7) rfl).mono ?_
      rintro e ub ⟨A9, q9, rfl, hl9, hs9, hx9⟩
      simp only []
      have hU9 := hU7.trans hx9
      refine hK.out _ _ ⟨fun _ => trivial, hU9⟩ (fun _ => ?_)
      clear hK K
      (try simp only [Act.put, List.setIfInBounds_toArray, List.set_cons_zero, List.set_cons_succ])
      refine wpE_all (rs := [10]) (by kernel_rfl) (by simp) ?_
      refine AllE.cons rfl (fun K hK => ?_) AllE.nil
      simp only [List.getElem_toArray, List.getElem_cons_succ, List.getElem_cons_zero]
      go_simp; go_at_call 19
      refine (sameF_eq _ A7 A9 q7 q9 _ _ (SF.lift hs7 (Nat.le_refl _) hx9) hs9 (by omega) (by omega) rfl).mono ?_
      rintro e uc ⟨rfl, hx10⟩
      simp only []
      have hU10 := hU9.trans hx10
      refine hK.out _ _ ⟨fun _ => trivial, hU10⟩ (fun _ => ?_)
      clear hK K
      (try simp only [Act.put, List.setIfInBounds_toArray, List.set_cons_zero, List.set_cons_succ])
      refine wpE_takeT (i := 11) (d := some 63) (v := .bool false) rfl rfl (by kernel_rfl) (by kernel_rfl) (by kernel_rfl) rfl (fun _ _ _ h => h) (by rfl) ?hy10 hU10 ?go10
      case hy10 =>
        intro w9 hT9
        clear hT9
        go_simp
      (try simp only [Act.put, List.setIfInBounds_toArray, List.set_cons_zero, List.set_cons_succ])
      refine wpE_takeT (i := 12) (d := some 64) (v := .bool false) rfl rfl (by kernel_rfl) (by kernel_rfl) (by kernel_rfl) rfl (fun _ _ _ h => h) (by rfl) ?hy11 hU10 ?go11
      case hy11 =>
        intro w9 hT9
        clear hT9
        go_simp
      (try simp only [Act.put, List.setIfInBounds_toArray, List.set_cons_zero, List.set_cons_succ])
      refine wpE_done (by kernel_rfl) ?_ _
      go_wp2_with fail
      go_meet
      case rel => exact ⟨rfl, hU10⟩
    exact AllE.nil
  case rest =>
    obtain ⟨rfl, hx6⟩ := hcut
    have HX6 := Lib.hid hx6
    obtain ⟨_, g0, g1, g2, g3, g4, g5⟩ := HBX.out.ext hx6
    clear hx6
    go_wp2_with fail
    refine (app_no A5 _ c5 S1 ⟨e0, true, x⟩ _ (by omega) (SV.lift HS5.out (Nat.le_refl _) HX6.out) HF1.out hkx 3 HW2.out (by decide)).mono ?_
    rintro e w7 ⟨rfl, hx7⟩
    have HX7 := Lib.hid (HX6.out.trans hx7)
    clear g0 g1 g2 g3 g4 g5 hx7 HX6
    obtain ⟨_, g0, g1, g2, g3, g4, g5⟩ := HBX.out.ext HX7.out
    go_wp2_with fail
    refine (app_ok A5 _ c5 S1 ⟨e0 + 1, false, x⟩ _ (by omega) (SV.lift HS5.out (Nat.le_refl _) HX7.out) HF1.out hkx HW3.out).mono ?_
    rintro e w8 ⟨⟨A8, c8, rfl, hs8⟩, hx8⟩
    have HX8 := Lib.hid (HX7.out.trans hx8)
    have HS8 := Lib.hid hs8
    clear g0 g1 g2 g3 g4 g5 hx8 hs8 HX7
    have hen4 : ∀ k, k < L.length + 1 + 1 → 0 ≤ (vat (S1 ++ [⟨e0 + 1, false, x⟩]) k).fc.en ∧ (vat (S1 ++ [⟨e0 + 1, false, x⟩]) k).fc.en ≤ 5 := by rw [← HS8.out.1]; exact HF2.out.en
    have HEN2 := Lib.hid hen4
    clear hen4
    go_wp2_with fail
    refine (at_any_eq A8 _ c8 _ (e0 + 1) _ a (by omega) HS8.out HEN2.out HA3.out).mono ?_
    rintro e w9 ⟨A9, c9, rfl, hl9, hs9, hx9⟩
    have HX9 := Lib.hid (HX8.out.trans hx9)
    have HS9 := Lib.hid hs9
    have HX89 := Lib.hid hx9
    clear hx9 hs9
    go_wp2_with fail
    refine (sameF_eq _ A9 _ c9 c3 _ _ HS9.out (SF.lift HA.out (Nat.le_refl _) HX9.out) (by omega) (by omega) rfl).mono ?_
    rintro e w10 ⟨rfl, hx10⟩
    have HX10 := Lib.hid (HX9.out.trans hx10)
    have HX810 := Lib.hid (HX89.out.trans hx10)
    clear hx10
    go_wp2_with fail
    refine (at_any_eq A8 _ c8 _ e0 _ (wout a [x]) (by omega) (SV.lift HS8.out (Nat.le_refl _) HX810.out) HEN2.out HA2.out).mono ?_
    rintro e w11 ⟨A11, c11, rfl, hl11, hs11, hx11⟩
    have HX11 := Lib.hid (HX10.out.trans hx11)
    have HS11 := Lib.hid hs11
    clear hx11 hs11
    go_wp2_with fail
    refine (at_any_eq A5 _ c5 S1 e0 _ (wout a [x]) (by omega) (SV.lift HS5.out (Nat.le_refl _) HX11.out) HEN.out HA1.out).mono ?_
    rintro e w12 ⟨A12, c12, rfl, hl12, hs12, hx12⟩
    have HS12 := Lib.hid hs12
    have HX12 := Lib.hid (HX11.out.trans hx12)
    have HS11' := Lib.hid (SF.lift HS11.out (Nat.le_refl _) hx12)
    clear hx12 hs12
    go_wp2_with fail
    refine (sameF_eq _ A11 A12 c11 c12 _ _ HS11'.out HS12.out (by omega) (by omega) rfl).mono ?_
    rintro e w13 ⟨rfl, hx13⟩
    have HX13 := Lib.hid (HY.out.trans (HX12.out.trans hx13))
    clear hx13
    go_wp2_with fail
    refine (lives_any _).mono ?_
    rintro e w14 ⟨rfl, hx14⟩
    go_wp2
    go_ret
    exact ⟨rfl, HX13.out.trans hx14⟩
end Go.Proofs.Ythjjdeabfnlbjaa
