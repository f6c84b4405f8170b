/- The contract of cite.Parse. -/
import Derived.Test.YtbfogchdeijedaaDoorBox
import Derived.Deep.DeepCutAuto
namespace Go.Proofs.YtbfogchdeijedaaDoor
open Go Go.RowKit

def CPost (r : Ct × Int) (w : World) (e : Ending) (w' : World) : Prop := e = .returned (.tuple #[r.1.val, .int .i64 r.2]) ∧ Ext w w'
/-- Behind the literal: the citation's box, the two numbers, what the variables hold. -/
def LitRel (w : World) (r : ByteArray) (k : Bool) (bs xs : List UInt8) (s10 : Value) (wx : World) : Prop :=
  ∃ (b : Nat) (v x : Int), s10 = .pointer (some ⟨b, 0, none⟩) ∧ w.heap.size + 3 ≤ b ∧ Box wx b v 0 0 x ∧ Box wx w.heap.size 0 0 0 0 ∧ PSt w wx r (k && (numP bs).isSome && (numP xs).isSome) ∧ (∀ n, numP bs = some n → v = n) ∧ (∀ n, numP xs = some n → x = n)
theorem cut_len {l a b : List UInt8} {f : Bool} (h : Lib.cut l [47] = (a, b, f)) : a.length ≤ l.length ∧ b.length ≤ l.length := by
  unfold Lib.cut at h
  split at h
  · injection h with h1 h2
    injection h2 with h2 h3
    subst h1 h2
    simp; omega
  · injection h with h1 h2
    injection h2 with h2 h3
    subst h1 h2
    simp
set_option maxHeartbeats 4000000 in
set_option maxRecDepth 100000 in
theorem cparse_any (s : ByteArray) (w : World) (hs : s.size ≤ 281474976710656) (hE : Env w) : Calls Tryd.prog 12 #[.string s] w (CPost (parseP s.data.toList) w) := by
  obtain ⟨b, r, f, hc1⟩ : ∃ b r f, Lib.cut s.data.toList [47] = (b, r, f) := ⟨_, _, _, rfl⟩
  obtain ⟨m, x, g, hc2⟩ : ∃ m x g, Lib.cut r [47] = (m, x, g) := ⟨_, _, _, rfl⟩
  have hpc := parse_cuts s.data.toList b r m x f g hc1 hc2
  have HPC := Lib.hid hpc
  have HS := Lib.hid (pst_start w s)
  have hlen : b.length ≤ 281474976710656 ∧ r.length ≤ 281474976710656 ∧ m.length ≤ 281474976710656 ∧ x.length ≤ 281474976710656 := by
    have h1 := cut_len hc1
    have h2 := cut_len hc2
    have h3 : s.data.toList.length = s.size := by simp
    omega
  obtain ⟨B, hB⟩ : ∃ B : ByteArray, B = ⟨b.toArray⟩ := ⟨_, rfl⟩
  obtain ⟨R, hR⟩ : ∃ B : ByteArray, B = ⟨r.toArray⟩ := ⟨_, rfl⟩
  obtain ⟨M, hM⟩ : ∃ B : ByteArray, B = ⟨m.toArray⟩ := ⟨_, rfl⟩
  obtain ⟨X, hX⟩ : ∃ B : ByteArray, B = ⟨x.toArray⟩ := ⟨_, rfl⟩
  have HP1 := Lib.hid (fun (W : World) (hW : PSt w W s true) => (show Calls Tryd.prog 24 #[.pointer (some ⟨w.heap.size + 1, 0, none⟩), .pointer (some ⟨w.heap.size + 2, 0, none⟩)] W (fun e W' => e = .returned (.string B) ∧ PSt w W' R (true && f) ∧ Keep w W W') from hB ▸ hR ▸ part_any w W s true b r f hs hc1 hW))
  have HP2 := Lib.hid (fun (W : World) (hW : PSt w W R (true && f)) => (show Calls Tryd.prog 24 #[.pointer (some ⟨w.heap.size + 1, 0, none⟩), .pointer (some ⟨w.heap.size + 2, 0, none⟩)] W (fun e W' => e = .returned (.string M) ∧ PSt w W' X (true && f && g) ∧ Keep w W W') from hM ▸ hX ▸ part_any w W R (true && f) m x g (by rw [hR]; exact hlen.2.1) (by rw [hR]; exact hc2) hW))
  have HN1 := Lib.hid (fun (W : World) (k : Bool) (hW : PSt w W X k) (hEW : Ext w W) => (show Calls Tryd.prog 26 #[.string B, .pointer (some ⟨w.heap.size + 2, 0, none⟩)] W (NumPost w W b X k) from by have := num_any w W B X k (by rw [hB]; exact hlen.1) (hE.ext hEW) hW; rw [hB] at this ⊢; exact this))
  have HN2 := Lib.hid (fun (W : World) (k : Bool) (hW : PSt w W X k) (hEW : Ext w W) => (show Calls Tryd.prog 26 #[.string X, .pointer (some ⟨w.heap.size + 2, 0, none⟩)] W (NumPost w W x X k) from by have := num_any w W X X k (by rw [hX]; exact hlen.2.2.2) (hE.ext hEW) hW; rw [hX] at this ⊢; exact this))
  have HL := Lib.hid (fun (W : World) => (show Calls Tryd.prog 28 #[.string M] W (LPost (labR (labP m)) W) from by have := labp_any M W (by rw [hM]; exact hlen.2.2.1); rw [hM] at this ⊢; exact this))
  clear hB hR hM hX hc1 hc2 hpc hlen hE
  go_enter Tryd.func12, Tryd.ntmps12
  go_upto_region 5 with (first
    | (go_at_call 24; refine (HP1.out _ HS.out.1).mono ?_; rintro e w1 ⟨rfl, hS1, hK1⟩)
    | (go_at_call 24; refine (HP2.out _ hS1).mono ?_; rintro e w2 ⟨rfl, hS2, hK2⟩))
  have hb2 : Box w2 w.heap.size 0 0 0 0 := (HS.out.2.keep (hK1.trans hK2) (by omega) (by omega))
  have hsz := hS2.size
  have hx2 := hS2.ext
  go_cut [10] (fun s10 wx => LitRel w X (true && f && g) b x s10 wx)
  case first =>
    have hr2 := hS2.rest
    have hr2a : ∀ o, (w2.alloc o).cell? ⟨w.heap.size + 1, 0, none⟩ = some (.string X) := fun o => (World.cell?_alloc_lt _ _ _ (by show w.heap.size + 1 < w2.heap.size; omega)).trans hr2
    go_region_with (first
      | (have hg := hS3; clear hg; go_at_call 26; refine (HN2.out _ _ (hS3.mono ?_) ?_).mono ?_; (first | exact Ext.refl _ | exact (Ext.refl _).alloc _); (first | exact hS3.ext | exact hS3.ext.alloc _); rintro e w4 ⟨x', rfl, hS4, hK4, hx'⟩; have hsz4 := hS4.size; (first | (have hbr4 := hbr3.keep hK4 (by omega) (by omega)) | (have hbr4 := (hbr3.ext ((Ext.refl _).alloc _)).keep hK4 (by omega) (by omega))); (first | (have hb4 := hb3.keep hK4 (by omega) (by omega); have HB4 := Lib.hid hb4; obtain ⟨a9, a0, a1, a2, a3, g0, g1, g2, g3⟩ := hb4) | (have hb4 := (Box.new w3 0 0 0 0 25).keep hK4 (by omega) (by omega); have HB4 := Lib.hid hb4; obtain ⟨a9, a0, a1, a2, a3, g0, g1, g2, g3⟩ := hb4) | skip))
      | (go_at_call 26; refine (HN1.out _ _ (hS2.mono ?_) ?_).mono ?_; (first | exact (Ext.refl _).drew | exact ((Ext.refl _).alloc _).drew); (first | exact hx2.drew | exact (hx2.alloc _).drew); rintro e w3 ⟨v', rfl, hS3, hK3, hv'⟩; have hsz3 := hS3.size; (first | (have hbr3 := (hb2.ext (Ext.refl _).drew).keep hK3 (by omega) (by omega)) | (have hbr3 := (hb2.ext ((Ext.refl _).alloc _).drew).keep hK3 (by omega) (by omega))); have hr3 := hS3.rest; have hr3a : ∀ o, (w3.alloc o).cell? ⟨w.heap.size + 1, 0, none⟩ = some (.string X) := fun o => (World.cell?_alloc_lt _ _ _ (by show w.heap.size + 1 < w3.heap.size; omega)).trans hr3; (try have hb3 := ((Box.new w2 0 0 0 0 25).ext ((Ext.refl _).drew)).keep hK3 (by omega) (by omega))))
    all_goals
      go_wp2_with fail
      go_meet
      case rel =>
        first
        | exact ⟨_, _, _, rfl, by omega, Box.new _ _ _ _ _ _, hbr4.ext ((Ext.refl _).alloc _), hS4.mono ((Ext.refl _).alloc _), hv', hx'⟩
        | (refine ⟨_, _, _, rfl, ?_, HB4.out.store _ _ _ _, ?_, ?_, hv', hx'⟩
           · omega
           · iterate 4 (refine Box.other ?_ (by omega) _)
             exact hbr4
           · iterate 4 (refine PSt.other ?_ (by omega) (by omega) (by omega) _)
             exact hS4)
  case rest =>
    obtain ⟨b0, v, x', rfl, hbn, hbox, hres, hS, hv, hx'⟩ := hcut
    have hxc := hS.ext
    have hszc := hS.size
    clear HP1 HP2 HN1 HN2 hS1 hS2 hK1 hK2 hb2
    have HV := Lib.hid hv
    have HX := Lib.hid hx'
    clear hv hx'
    cases hK : (true && f && g && (numP b).isSome && (numP x).isSome) with
    | false =>
      rw [hK] at hS
      have hno : parseP s.data.toList = (ct0, 7) := by
        rw [HPC.out]
        split
        · rename_i hfg
          rw [hfg.1, hfg.2] at hK
          cases hb : numP b with
          | none => exact read3_b hb
          | some nb =>
            cases hx : numP x with
            | none => exact read3_x hx
            | some nx => rw [hb, hx] at hK; simp at hK
        · rfl
      have HNO := Lib.hid hno
      have hok := hS.ok
      obtain ⟨e9, e0, e1, e2, e3, k0, k1, k2, k3⟩ := hres
      clear hK hno HPC HL
      go_wp2_with fail
      refine bodyPost_ret (v := .tuple #[.agg #[.int .i64 0, .int .i64 0, .int .i64 0, .int .i64 0], .int .i64 7]) (by simp [results, Tryd.results12, go_sem, *]) rfl ?_
      exact ⟨by rw [HNO.out]; rfl, by repeat (first | exact hxc | refine Ext.setCell ?_ (Nat.le_refl _) _)⟩
    | true =>
      rw [hK] at hS
      simp only [Bool.true_and, Bool.and_eq_true] at hK
      obtain ⟨⟨⟨hf, hg⟩, hb⟩, hx⟩ := hK
      obtain ⟨nb, hb⟩ := Option.isSome_iff_exists.1 hb
      obtain ⟨nx, hx⟩ := Option.isSome_iff_exists.1 hx
      have hP : parseP s.data.toList = read3 b m x := by rw [HPC.out, hf, hg]; simp
      obtain rfl := HV.out nb hb
      obtain rfl := HX.out nx hx
      have hok := hS.ok
      have HLx : ∀ (n0 s0 e0 : Int), labR (labP m) = (n0, s0, e0) → ∀ W, Calls Tryd.prog 28 #[.string M] W (fun e W' => e = .returned (.tuple #[.agg #[.int .i64 n0, .int .i64 s0], .int .i64 e0]) ∧ Ext W W') := fun n0 s0 e0 h W => by
        have := HL.out W; rw [h] at this; exact this
      clear HPC HL HV HX hS
      cases hm : labP m with
      | none =>
        have HF := Lib.hid (show parseP s.data.toList = (ct0, 7) by rw [hP, read3_m hm])
        have HC := Lib.hid (HLx 0 0 7 (by rw [hm]; rfl))
        clear hP hm HLx hb hx hf hg
        go_wp2_with (first | (go_at_call 28; refine (HC.out _).mono ?_; rintro e w5 ⟨rfl, hx5⟩; obtain ⟨e9, e0, e1, e2, e3, k0, k1, k2, k3⟩ := hres.ext hx5))
        refine bodyPost_ret (v := .tuple #[.agg #[.int .i64 0, .int .i64 0, .int .i64 0, .int .i64 0], .int .i64 7]) (by simp [results, Tryd.results12, go_sem, *]) rfl ?_
        exact ⟨by rw [HF.out]; rfl, by repeat (first | exact hxc.trans hx5 | refine Ext.alloc ?_ _ | refine Ext.setCell ?_ (Nat.le_refl _) _)⟩
      | some ns =>
        obtain ⟨n, su⟩ := ns
        have hR := read3_ok hb hx hm
        cases hlb : labB n su with
        | false =>
          have HF := Lib.hid (show parseP s.data.toList = (ct0, 5) by
            rw [hP, hR, if_neg]
            rw [citB_no (.inr (.inr (.inr (.inr hlb))))]; simp)
          have HC := Lib.hid (HLx 0 0 5 (by rw [hm]; unfold labR; simp only [hlb]; rfl))
          clear hP hm HLx hb hx hf hg hR hlb
          go_wp2_with (first | (go_at_call 28; refine (HC.out _).mono ?_; rintro e w5 ⟨rfl, hx5⟩; obtain ⟨e9, e0, e1, e2, e3, k0, k1, k2, k3⟩ := hres.ext hx5))
          refine bodyPost_ret (v := .tuple #[.agg #[.int .i64 0, .int .i64 0, .int .i64 0, .int .i64 0], .int .i64 5]) (by simp [results, Tryd.results12, go_sem, *]) rfl ?_
          exact ⟨by rw [HF.out]; rfl, by repeat (first | exact hxc.trans hx5 | refine Ext.alloc ?_ _ | refine Ext.setCell ?_ (Nat.le_refl _) _)⟩
        | true =>
          have HC := Lib.hid (HLx n su 0 (by rw [hm]; unfold labR; simp only [hlb]; rfl))
          have hd1 : b0 ≠ w.heap.size := by omega
          cases hcb : citB (mkCt nb n su nx) with
          | false =>
            have HF := Lib.hid (show parseP s.data.toList = (ct0, 5) by rw [hP, hR, hcb]; rfl)
            have HVa := Lib.hid (fun W => (show Calls Tryd.prog 18 #[.agg #[.int .i64 nb, .int .i64 n, .int .i64 su, .int .i64 nx]] W (BoolPost false W) from hcb ▸ valid_any (mkCt nb n su nx) W))
            clear hP hm HLx hb hx hf hg hR hlb hcb
            go_wp2_with (first | (go_at_call 28; refine (HC.out _).mono ?_; rintro e w5 ⟨rfl, hx5⟩; obtain ⟨e9, e0, e1, e2, e3, k0, k1, k2, k3⟩ := hres.ext hx5; obtain ⟨d9, d0, d1, d2, d3, l0, l1, l2, l3⟩ := hbox.ext hx5) | (go_at_call 18; refine (HVa.out _).mono ?_; rintro e w6 ⟨rfl, hx6⟩; (first | (have hc6 := ((((hbox.ext hx5).set1 n).set2 su).ext ((Ext.refl _).alloc _)).ext hx6; have hr6 := ((((hres.ext hx5).other hd1 _).other hd1 _).ext ((Ext.refl _).alloc _)).ext hx6) | (have hc6 := ((((hbox.ext hx5).ext ((Ext.refl _).alloc _)).set1 n).set2 su).ext hx6; have hr6 := ((((hres.ext hx5).ext ((Ext.refl _).alloc _)).other hd1 _).other hd1 _).ext hx6)); have HX6 := Lib.hid hx6; clear hx6; obtain ⟨p9, p0, p1, p2, p3, q0, q1, q2, q3⟩ := hc6; obtain ⟨r9, r0, r1, r2, r3, t0, t1, t2, t3⟩ := hr6))
            refine bodyPost_ret (v := .tuple #[.agg #[.int .i64 0, .int .i64 0, .int .i64 0, .int .i64 0], .int .i64 5]) (by simp [results, Tryd.results12, go_sem, *]) rfl ?_
            exact ⟨by rw [HF.out]; rfl, by
              iterate 4 (refine Ext.setCell ?_ (Nat.le_refl _) _)
              refine Ext.trans ?_ HX6.out
              repeat (first | exact hxc.trans hx5 | refine Ext.alloc ?_ _ | refine Ext.setCell ?_ (by show w.heap.size ≤ b0; omega) _)⟩
          | true =>
            have HF := Lib.hid (show parseP s.data.toList = (mkCt nb n su nx, 0) by rw [hP, hR, hcb]; rfl)
            have HVa := Lib.hid (fun W => (show Calls Tryd.prog 18 #[.agg #[.int .i64 nb, .int .i64 n, .int .i64 su, .int .i64 nx]] W (BoolPost true W) from hcb ▸ valid_any (mkCt nb n su nx) W))
            clear hP hm HLx hb hx hf hg hR hlb hcb
            go_wp2_with (first | (go_at_call 28; refine (HC.out _).mono ?_; rintro e w5 ⟨rfl, hx5⟩; obtain ⟨e9, e0, e1, e2, e3, k0, k1, k2, k3⟩ := hres.ext hx5; obtain ⟨d9, d0, d1, d2, d3, l0, l1, l2, l3⟩ := hbox.ext hx5) | (go_at_call 18; refine (HVa.out _).mono ?_; rintro e w6 ⟨rfl, hx6⟩; (first | (have hc6 := ((((hbox.ext hx5).set1 n).set2 su).ext ((Ext.refl _).alloc _)).ext hx6; have hr6 := ((((hres.ext hx5).other hd1 _).other hd1 _).ext ((Ext.refl _).alloc _)).ext hx6) | (have hc6 := ((((hbox.ext hx5).ext ((Ext.refl _).alloc _)).set1 n).set2 su).ext hx6; have hr6 := ((((hres.ext hx5).ext ((Ext.refl _).alloc _)).other hd1 _).other hd1 _).ext hx6)); have HX6 := Lib.hid hx6; clear hx6; obtain ⟨p9, p0, p1, p2, p3, q0, q1, q2, q3⟩ := hc6; obtain ⟨r9, r0, r1, r2, r3, t0, t1, t2, t3⟩ := hr6))
            refine bodyPost_ret (v := .tuple #[.agg #[.int .i64 nb, .int .i64 n, .int .i64 su, .int .i64 nx], .int .i64 0]) (by simp [results, Tryd.results12, go_sem, *]) rfl ?_
            exact ⟨by rw [HF.out]; rfl, by
              iterate 4 (refine Ext.setCell ?_ (Nat.le_refl _) _)
              refine Ext.trans ?_ HX6.out
              repeat (first | exact hxc.trans hx5 | refine Ext.alloc ?_ _ | refine Ext.setCell ?_ (by show w.heap.size ≤ b0; omega) _)⟩
end Go.Proofs.YtbfogchdeijedaaDoor
