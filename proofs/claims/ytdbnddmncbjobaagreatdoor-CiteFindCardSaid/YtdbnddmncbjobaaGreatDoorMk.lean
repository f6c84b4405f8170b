/- Boxes of four cells; the world in which cite.Parse calls its closures. -/
import Derived.Test.YtdbnddmncbjobaaGreatDoorMa
import Derived.Deep.DeepCutAuto
import Derived.Test.YtdbnddmncbjobaaGreatDoorMc
import Derived.Lib.AppendZeros
import Derived.Test.YtdbnddmncbjobaaGreatDoorMj
namespace Go.Proofs.YtdbnddmncbjobaaGreatDoor
open Go Go.RowKit

/-- A box of four numbers, not frozen. -/
structure Box (W : World) (b : Nat) (v0 v1 v2 v3 : Int) : Prop where
  lt : b < W.heap.size
  c0 : W.cell? ⟨b, 0, none⟩ = some (.int .i64 v0)
  c1 : W.cell? ⟨b, 1, none⟩ = some (.int .i64 v1)
  c2 : W.cell? ⟨b, 2, none⟩ = some (.int .i64 v2)
  c3 : W.cell? ⟨b, 3, none⟩ = some (.int .i64 v3)
  f0 : W.frozen? ⟨b, 0, none⟩ = false
  f1 : W.frozen? ⟨b, 1, none⟩ = false
  f2 : W.frozen? ⟨b, 2, none⟩ = false
  f3 : W.frozen? ⟨b, 3, none⟩ = false
theorem Box.keep {w W W' : World} {b : Nat} {v0 v1 v2 v3 : Int} (h : Box W b v0 v1 v2 v3) (k : Keep w W W') (h1 : b ≠ w.heap.size + 1) (h2 : b ≠ w.heap.size + 2) : Box W' b v0 v1 v2 v3 :=
  ⟨Nat.lt_of_lt_of_le h.lt k.size, by rw [k.cell _ _ h1 h2 h.lt]; exact h.c0, by rw [k.cell _ _ h1 h2 h.lt]; exact h.c1, by rw [k.cell _ _ h1 h2 h.lt]; exact h.c2, by rw [k.cell _ _ h1 h2 h.lt]; exact h.c3,
    by rw [k.frozen _ _ h1 h2 h.lt]; exact h.f0, by rw [k.frozen _ _ h1 h2 h.lt]; exact h.f1, by rw [k.frozen _ _ h1 h2 h.lt]; exact h.f2, by rw [k.frozen _ _ h1 h2 h.lt]; exact h.f3⟩
theorem Box.ext {W W' : World} {b : Nat} {v0 v1 v2 v3 : Int} (h : Box W b v0 v1 v2 v3) (hx : Ext W W') : Box W' b v0 v1 v2 v3 := by
  obtain ⟨q, p⟩ := hx.cells
  exact ⟨Nat.lt_of_lt_of_le h.lt hx.lt, by rw [q _ _ h.lt]; exact h.c0, by rw [q _ _ h.lt]; exact h.c1, by rw [q _ _ h.lt]; exact h.c2, by rw [q _ _ h.lt]; exact h.c3,
    by rw [p _ _ h.lt]; exact h.f0, by rw [p _ _ h.lt]; exact h.f1, by rw [p _ _ h.lt]; exact h.f2, by rw [p _ _ h.lt]; exact h.f3⟩
theorem Box.new (W : World) (v0 v1 v2 v3 : Int) (t : TypeId) : Box (W.alloc (.cells #[.int .i64 v0, .int .i64 v1, .int .i64 v2, .int .i64 v3] t)) W.heap.size v0 v1 v2 v3 :=
  ⟨by simp, by go_simp, by go_simp, by go_simp, by go_simp, by go_simp, by go_simp, by go_simp, by go_simp⟩
theorem Box.other {W : World} {b : Nat} {v0 v1 v2 v3 : Int} (h : Box W b v0 v1 v2 v3) {b' o : Nat} (hne : b' ≠ b) (u : Value) : Box (W.setCell ⟨b', o, none⟩ u) b v0 v1 v2 v3 := by
  have e : ∀ i, (W.setCell ⟨b', o, none⟩ u).cell? ⟨b, i, none⟩ = W.cell? ⟨b, i, none⟩ := fun i => World.cell?_setCell_other _ _ _ _ (by intro e; injection e with e1; exact hne e1)
  have f : ∀ i, (W.setCell ⟨b', o, none⟩ u).frozen? ⟨b, i, none⟩ = W.frozen? ⟨b, i, none⟩ := fun i => by rw [World.frozen?_setCell]
  exact ⟨by simpa using h.lt, by rw [e]; exact h.c0, by rw [e]; exact h.c1, by rw [e]; exact h.c2, by rw [e]; exact h.c3, by rw [f]; exact h.f0, by rw [f]; exact h.f1, by rw [f]; exact h.f2, by rw [f]; exact h.f3⟩
theorem Box.set0 {W : World} {b : Nat} {v0 v1 v2 v3 : Int} (h : Box W b v0 v1 v2 v3) (u : Int) : Box (W.setCell ⟨b, 0, none⟩ (.int .i64 u)) b u v1 v2 v3 := by
  have e : ∀ i, i ≠ 0 → (W.setCell ⟨b, 0, none⟩ (.int .i64 u)).cell? ⟨b, i, none⟩ = W.cell? ⟨b, i, none⟩ := fun i hi => World.cell?_setCell_other _ _ _ _ (by intro e; injection e with e1 e2; exact hi e2.symm)
  have f : ∀ i, (W.setCell ⟨b, 0, none⟩ (.int .i64 u)).frozen? ⟨b, i, none⟩ = W.frozen? ⟨b, i, none⟩ := fun i => by rw [World.frozen?_setCell]
  exact ⟨by simpa using h.lt, World.cell?_setCell_same _ _ _ h.c0, by rw [e _ (by omega)]; exact h.c1, by rw [e _ (by omega)]; exact h.c2, by rw [e _ (by omega)]; exact h.c3, by rw [f]; exact h.f0, by rw [f]; exact h.f1, by rw [f]; exact h.f2, by rw [f]; exact h.f3⟩
theorem Box.set1 {W : World} {b : Nat} {v0 v1 v2 v3 : Int} (h : Box W b v0 v1 v2 v3) (u : Int) : Box (W.setCell ⟨b, 1, none⟩ (.int .i64 u)) b v0 u v2 v3 := by
  have e : ∀ i, i ≠ 1 → (W.setCell ⟨b, 1, none⟩ (.int .i64 u)).cell? ⟨b, i, none⟩ = W.cell? ⟨b, i, none⟩ := fun i hi => World.cell?_setCell_other _ _ _ _ (by intro e; injection e with e1 e2; exact hi e2.symm)
  have f : ∀ i, (W.setCell ⟨b, 1, none⟩ (.int .i64 u)).frozen? ⟨b, i, none⟩ = W.frozen? ⟨b, i, none⟩ := fun i => by rw [World.frozen?_setCell]
  exact ⟨by simpa using h.lt, by rw [e _ (by omega)]; exact h.c0, World.cell?_setCell_same _ _ _ h.c1, by rw [e _ (by omega)]; exact h.c2, by rw [e _ (by omega)]; exact h.c3, by rw [f]; exact h.f0, by rw [f]; exact h.f1, by rw [f]; exact h.f2, by rw [f]; exact h.f3⟩
theorem Box.set2 {W : World} {b : Nat} {v0 v1 v2 v3 : Int} (h : Box W b v0 v1 v2 v3) (u : Int) : Box (W.setCell ⟨b, 2, none⟩ (.int .i64 u)) b v0 v1 u v3 := by
  have e : ∀ i, i ≠ 2 → (W.setCell ⟨b, 2, none⟩ (.int .i64 u)).cell? ⟨b, i, none⟩ = W.cell? ⟨b, i, none⟩ := fun i hi => World.cell?_setCell_other _ _ _ _ (by intro e; injection e with e1 e2; exact hi e2.symm)
  have f : ∀ i, (W.setCell ⟨b, 2, none⟩ (.int .i64 u)).frozen? ⟨b, i, none⟩ = W.frozen? ⟨b, i, none⟩ := fun i => by rw [World.frozen?_setCell]
  exact ⟨by simpa using h.lt, by rw [e _ (by omega)]; exact h.c0, by rw [e _ (by omega)]; exact h.c1, World.cell?_setCell_same _ _ _ h.c2, by rw [e _ (by omega)]; exact h.c3, by rw [f]; exact h.f0, by rw [f]; exact h.f1, by rw [f]; exact h.f2, by rw [f]; exact h.f3⟩
theorem Box.set3 {W : World} {b : Nat} {v0 v1 v2 v3 : Int} (h : Box W b v0 v1 v2 v3) (u : Int) : Box (W.setCell ⟨b, 3, none⟩ (.int .i64 u)) b v0 v1 v2 u := by
  have e : ∀ i, i ≠ 3 → (W.setCell ⟨b, 3, none⟩ (.int .i64 u)).cell? ⟨b, i, none⟩ = W.cell? ⟨b, i, none⟩ := fun i hi => World.cell?_setCell_other _ _ _ _ (by intro e; injection e with e1 e2; exact hi e2.symm)
  have f : ∀ i, (W.setCell ⟨b, 3, none⟩ (.int .i64 u)).frozen? ⟨b, i, none⟩ = W.frozen? ⟨b, i, none⟩ := fun i => by rw [World.frozen?_setCell]
  exact ⟨by simpa using h.lt, by rw [e _ (by omega)]; exact h.c0, by rw [e _ (by omega)]; exact h.c1, by rw [e _ (by omega)]; exact h.c2, World.cell?_setCell_same _ _ _ h.c3, by rw [f]; exact h.f0, by rw [f]; exact h.f1, by rw [f]; exact h.f2, by rw [f]; exact h.f3⟩
theorem Box.store {W : World} {b : Nat} {v0 v1 v2 v3 : Int} (h : Box W b v0 v1 v2 v3) (u0 u1 u2 u3 : Int) :
    Box ((((W.setCell ⟨b, 0, none⟩ (.int .i64 u0)).setCell ⟨b, 1, none⟩ (.int .i64 u1)).setCell ⟨b, 2, none⟩ (.int .i64 u2)).setCell ⟨b, 3, none⟩ (.int .i64 u3)) b u0 u1 u2 u3 :=
  (((h.set0 u0).set1 u1).set2 u2).set3 u3
theorem PSt.other {w W : World} {r : ByteArray} {k : Bool} (h : PSt w W r k) {b o : Nat} (h0 : w.heap.size ≤ b) (h1 : b ≠ w.heap.size + 1) (h2 : b ≠ w.heap.size + 2) (u : Value) : PSt w (W.setCell ⟨b, o, none⟩ u) r k :=
  ⟨h.ext.setCell h0 _, by simpa using h.size, by rw [World.cell?_setCell_other _ _ _ _ (by intro e; injection e with e1; exact h1 e1)]; exact h.rest,
    by rw [World.cell?_setCell_other _ _ _ _ (by intro e; injection e with e1; exact h2 e1)]; exact h.ok, by rw [World.frozen?_setCell]; exact h.frest, by rw [World.frozen?_setCell]; exact h.fok⟩
/-- The world in which the first closure is called. -/
def start (w : World) (s : ByteArray) : World := ((w.alloc (.cells #[.int .i64 0, .int .i64 0, .int .i64 0, .int .i64 0] 69)).alloc (.cells #[.string s] 9)).alloc (.cells #[.bool true] 4)
theorem pst_start (w : World) (s : ByteArray) : PSt w (start w s) s true ∧ Box (start w s) w.heap.size 0 0 0 0 := by
  unfold start
  refine ⟨⟨(((Ext.refl w).alloc _).alloc _).alloc _, by simp, by go_simp, by go_simp, by go_simp, by go_simp⟩, ?_⟩
  exact ((Box.new w 0 0 0 0 69).ext ((Ext.refl _).alloc _)).ext ((Ext.refl _).alloc _)
end Go.Proofs.YtdbnddmncbjobaaGreatDoor

/- The contract of cite.Parse. -/
namespace Go.Proofs.YtdbnddmncbjobaaGreatDoor
open Go Go.RowKit

def CPost (r : Ct × Int) (w : World) (e : Ending) (w' : World) : Prop := e = .returned (.tuple #[r.1.val, .int .i64 r.2]) ∧ Ext w w'
/-- Behind the literal: the citation's box, the two numbers, what the variables hold. -/
def LitRel (w : World) (r : ByteArray) (k : Bool) (bs xs : List UInt8) (s10 : Value) (wx : World) : Prop :=
  ∃ (b : Nat) (v x : Int), s10 = .pointer (some ⟨b, 0, none⟩) ∧ w.heap.size + 3 ≤ b ∧ Box wx b v 0 0 x ∧ Box wx w.heap.size 0 0 0 0 ∧ PSt w wx r (k && (numP bs).isSome && (numP xs).isSome) ∧ (∀ n, numP bs = some n → v = n) ∧ (∀ n, numP xs = some n → x = n)
theorem cut_len {l a b : List UInt8} {f : Bool} (h : Lib.cut l [47] = (a, b, f)) : a.length ≤ l.length ∧ b.length ≤ l.length := by
  unfold Lib.cut at h
  split at h
  · injection h with h1 h2
    injection h2 with h2 h3
    subst h1 h2
    simp; omega
  · injection h with h1 h2
    injection h2 with h2 h3
    subst h1 h2
    simp
set_option maxHeartbeats 4000000 in
set_option maxRecDepth 100000 in
theorem cparse_any (s : ByteArray) (w : World) (hs : s.size ≤ 281474976710656) (hE : Env w) : Calls Tryz.prog 49 #[.string s] w (CPost (parseP s.data.toList) w) := by
  obtain ⟨b, r, f, hc1⟩ : ∃ b r f, Lib.cut s.data.toList [47] = (b, r, f) := ⟨_, _, _, rfl⟩
  obtain ⟨m, x, g, hc2⟩ : ∃ m x g, Lib.cut r [47] = (m, x, g) := ⟨_, _, _, rfl⟩
  have hpc := parse_cuts s.data.toList b r m x f g hc1 hc2
  have HPC := Lib.hid hpc
  have HS := Lib.hid (pst_start w s)
  have hlen : b.length ≤ 281474976710656 ∧ r.length ≤ 281474976710656 ∧ m.length ≤ 281474976710656 ∧ x.length ≤ 281474976710656 := by
    have h1 := cut_len hc1
    have h2 := cut_len hc2
    have h3 : s.data.toList.length = s.size := by simp
    omega
  obtain ⟨B, hB⟩ : ∃ B : ByteArray, B = ⟨b.toArray⟩ := ⟨_, rfl⟩
  obtain ⟨R, hR⟩ : ∃ B : ByteArray, B = ⟨r.toArray⟩ := ⟨_, rfl⟩
  obtain ⟨M, hM⟩ : ∃ B : ByteArray, B = ⟨m.toArray⟩ := ⟨_, rfl⟩
  obtain ⟨X, hX⟩ : ∃ B : ByteArray, B = ⟨x.toArray⟩ := ⟨_, rfl⟩
  have HP1 := Lib.hid (fun (W : World) (hW : PSt w W s true) => (show Calls Tryz.prog 98 #[.pointer (some ⟨w.heap.size + 1, 0, none⟩), .pointer (some ⟨w.heap.size + 2, 0, none⟩)] W (fun e W' => e = .returned (.string B) ∧ PSt w W' R (true && f) ∧ Keep w W W') from hB ▸ hR ▸ part_any w W s true b r f hs hc1 hW))
  have HP2 := Lib.hid (fun (W : World) (hW : PSt w W R (true && f)) => (show Calls Tryz.prog 98 #[.pointer (some ⟨w.heap.size + 1, 0, none⟩), .pointer (some ⟨w.heap.size + 2, 0, none⟩)] W (fun e W' => e = .returned (.string M) ∧ PSt w W' X (true && f && g) ∧ Keep w W W') from hM ▸ hX ▸ part_any w W R (true && f) m x g (by rw [hR]; exact hlen.2.1) (by rw [hR]; exact hc2) hW))
  have HN1 := Lib.hid (fun (W : World) (k : Bool) (hW : PSt w W X k) (hEW : Ext w W) => (show Calls Tryz.prog 100 #[.string B, .pointer (some ⟨w.heap.size + 2, 0, none⟩)] W (NumPost w W b X k) from by have := num_any w W B X k (by rw [hB]; exact hlen.1) (hE.ext hEW) hW; rw [hB] at this ⊢; exact this))
  have HN2 := Lib.hid (fun (W : World) (k : Bool) (hW : PSt w W X k) (hEW : Ext w W) => (show Calls Tryz.prog 100 #[.string X, .pointer (some ⟨w.heap.size + 2, 0, none⟩)] W (NumPost w W x X k) from by have := num_any w W X X k (by rw [hX]; exact hlen.2.2.2) (hE.ext hEW) hW; rw [hX] at this ⊢; exact this))
  have HL := Lib.hid (fun (W : World) => (show Calls Tryz.prog 103 #[.string M] W (LPost (labR (labP m)) W) from by have := labp_any M W (by rw [hM]; exact hlen.2.2.1); rw [hM] at this ⊢; exact this))
  clear hB hR hM hX hc1 hc2 hpc hlen hE
  go_enter Tryz.func49, Tryz.ntmps49
  go_upto_region 5 with (first
    | (go_at_call 98; refine (HP1.out _ HS.out.1).mono ?_; rintro e w1 ⟨rfl, hS1, hK1⟩)
    | (go_at_call 98; refine (HP2.out _ hS1).mono ?_; rintro e w2 ⟨rfl, hS2, hK2⟩))
  have hb2 : Box w2 w.heap.size 0 0 0 0 := (HS.out.2.keep (hK1.trans hK2) (by omega) (by omega))
  have hsz := hS2.size
  have hx2 := hS2.ext
  go_cut [10] (fun s10 wx => LitRel w X (true && f && g) b x s10 wx)
  case first =>
    have hr2 := hS2.rest
    have hr2a : ∀ o, (w2.alloc o).cell? ⟨w.heap.size + 1, 0, none⟩ = some (.string X) := fun o => (World.cell?_alloc_lt _ _ _ (by show w.heap.size + 1 < w2.heap.size; omega)).trans hr2
    go_region_with (first
      | (have hg := hS3; clear hg; go_at_call 100; refine (HN2.out _ _ (hS3.mono ?_) ?_).mono ?_; (first | exact Ext.refl _ | exact (Ext.refl _).alloc _); (first | exact hS3.ext | exact hS3.ext.alloc _); rintro e w4 ⟨x', rfl, hS4, hK4, hx'⟩; have hsz4 := hS4.size; (first | (have hbr4 := hbr3.keep hK4 (by omega) (by omega)) | (have hbr4 := (hbr3.ext ((Ext.refl _).alloc _)).keep hK4 (by omega) (by omega))); (first | (have hb4 := hb3.keep hK4 (by omega) (by omega); have HB4 := Lib.hid hb4; obtain ⟨a9, a0, a1, a2, a3, g0, g1, g2, g3⟩ := hb4) | (have hb4 := (Box.new w3 0 0 0 0 69).keep hK4 (by omega) (by omega); have HB4 := Lib.hid hb4; obtain ⟨a9, a0, a1, a2, a3, g0, g1, g2, g3⟩ := hb4) | skip))
      | (go_at_call 100; refine (HN1.out _ _ (hS2.mono ?_) ?_).mono ?_; (first | exact (Ext.refl _).drew | exact ((Ext.refl _).alloc _).drew); (first | exact hx2.drew | exact (hx2.alloc _).drew); rintro e w3 ⟨v', rfl, hS3, hK3, hv'⟩; have hsz3 := hS3.size; (first | (have hbr3 := (hb2.ext (Ext.refl _).drew).keep hK3 (by omega) (by omega)) | (have hbr3 := (hb2.ext ((Ext.refl _).alloc _).drew).keep hK3 (by omega) (by omega))); have hr3 := hS3.rest; have hr3a : ∀ o, (w3.alloc o).cell? ⟨w.heap.size + 1, 0, none⟩ = some (.string X) := fun o => (World.cell?_alloc_lt _ _ _ (by show w.heap.size + 1 < w3.heap.size; omega)).trans hr3; (try have hb3 := ((Box.new w2 0 0 0 0 69).ext ((Ext.refl _).drew)).keep hK3 (by omega) (by omega))))
    all_goals
      go_wp2_with fail
      go_meet
      case rel =>
        first
        | exact ⟨_, _, _, rfl, by omega, Box.new _ _ _ _ _ _, hbr4.ext ((Ext.refl _).alloc _), hS4.mono ((Ext.refl _).alloc _), hv', hx'⟩
        | (refine ⟨_, _, _, rfl, ?_, HB4.out.store _ _ _ _, ?_, ?_, hv', hx'⟩
           · omega
           · iterate 4 (refine Box.other ?_ (by omega) _)
             exact hbr4
           · iterate 4 (refine PSt.other ?_ (by omega) (by omega) (by omega) _)
             exact hS4)
  case rest =>
    obtain ⟨b0, v, x', rfl, hbn, hbox, hres, hS, hv, hx'⟩ := hcut
    have hxc := hS.ext
    have hszc := hS.size
    clear HP1 HP2 HN1 HN2 hS1 hS2 hK1 hK2 hb2
    have HV := Lib.hid hv
    have HX := Lib.hid hx'
    clear hv hx'
    cases hK : (true && f && g && (numP b).isSome && (numP x).isSome) with
    | false =>
      rw [hK] at hS
      have hno : parseP s.data.toList = (ct0, 7) := by
        rw [HPC.out]
        split
        · rename_i hfg
          rw [hfg.1, hfg.2] at hK
          cases hb : numP b with
          | none => exact read3_b hb
          | some nb =>
            cases hx : numP x with
            | none => exact read3_x hx
            | some nx => rw [hb, hx] at hK; simp at hK
        · rfl
      have HNO := Lib.hid hno
      have hok := hS.ok
      obtain ⟨e9, e0, e1, e2, e3, k0, k1, k2, k3⟩ := hres
      clear hK hno HPC HL
      go_wp2_with fail
      refine bodyPost_ret (v := .tuple #[.agg #[.int .i64 0, .int .i64 0, .int .i64 0, .int .i64 0], .int .i64 7]) (by simp [results, Tryz.results49, go_sem, *]) rfl ?_
      exact ⟨by rw [HNO.out]; rfl, by repeat (first | exact hxc | refine Ext.setCell ?_ (Nat.le_refl _) _)⟩
    | true =>
      rw [hK] at hS
      simp only [Bool.true_and, Bool.and_eq_true] at hK
      obtain ⟨⟨⟨hf, hg⟩, hb⟩, hx⟩ := hK
      obtain ⟨nb, hb⟩ := Option.isSome_iff_exists.1 hb
      obtain ⟨nx, hx⟩ := Option.isSome_iff_exists.1 hx
      have hP : parseP s.data.toList = read3 b m x := by rw [HPC.out, hf, hg]; simp
      obtain rfl := HV.out nb hb
      obtain rfl := HX.out nx hx
      have hok := hS.ok
      have HLx : ∀ (n0 s0 e0 : Int), labR (labP m) = (n0, s0, e0) → ∀ W, Calls Tryz.prog 103 #[.string M] W (fun e W' => e = .returned (.tuple #[.agg #[.int .i64 n0, .int .i64 s0], .int .i64 e0]) ∧ Ext W W') := fun n0 s0 e0 h W => by
        have := HL.out W; rw [h] at this; exact this
      clear HPC HL HV HX hS
      cases hm : labP m with
      | none =>
        have HF := Lib.hid (show parseP s.data.toList = (ct0, 7) by rw [hP, read3_m hm])
        have HC := Lib.hid (HLx 0 0 7 (by rw [hm]; rfl))
        clear hP hm HLx hb hx hf hg
        go_wp2_with (first | (go_at_call 103; refine (HC.out _).mono ?_; rintro e w5 ⟨rfl, hx5⟩; obtain ⟨e9, e0, e1, e2, e3, k0, k1, k2, k3⟩ := hres.ext hx5))
        refine bodyPost_ret (v := .tuple #[.agg #[.int .i64 0, .int .i64 0, .int .i64 0, .int .i64 0], .int .i64 7]) (by simp [results, Tryz.results49, go_sem, *]) rfl ?_
        exact ⟨by rw [HF.out]; rfl, by repeat (first | exact hxc.trans hx5 | refine Ext.alloc ?_ _ | refine Ext.setCell ?_ (Nat.le_refl _) _)⟩
      | some ns =>
        obtain ⟨n, su⟩ := ns
        have hR := read3_ok hb hx hm
        cases hlb : labB n su with
        | false =>
          have HF := Lib.hid (show parseP s.data.toList = (ct0, 5) by
            rw [hP, hR, if_neg]
            rw [citB_no (.inr (.inr (.inr (.inr hlb))))]; simp)
          have HC := Lib.hid (HLx 0 0 5 (by rw [hm]; unfold labR; simp only [hlb]; rfl))
          clear hP hm HLx hb hx hf hg hR hlb
          go_wp2_with (first | (go_at_call 103; refine (HC.out _).mono ?_; rintro e w5 ⟨rfl, hx5⟩; obtain ⟨e9, e0, e1, e2, e3, k0, k1, k2, k3⟩ := hres.ext hx5))
          refine bodyPost_ret (v := .tuple #[.agg #[.int .i64 0, .int .i64 0, .int .i64 0, .int .i64 0], .int .i64 5]) (by simp [results, Tryz.results49, go_sem, *]) rfl ?_
          exact ⟨by rw [HF.out]; rfl, by repeat (first | exact hxc.trans hx5 | refine Ext.alloc ?_ _ | refine Ext.setCell ?_ (Nat.le_refl _) _)⟩
        | true =>
          have HC := Lib.hid (HLx n su 0 (by rw [hm]; unfold labR; simp only [hlb]; rfl))
          have hd1 : b0 ≠ w.heap.size := by omega
          cases hcb : citB (mkCt nb n su nx) with
          | false =>
            have HF := Lib.hid (show parseP s.data.toList = (ct0, 5) by rw [hP, hR, hcb]; rfl)
            have HVa := Lib.hid (fun W => (show Calls Tryz.prog 104 #[.agg #[.int .i64 nb, .int .i64 n, .int .i64 su, .int .i64 nx]] W (BoolPost false W) from hcb ▸ valid_any (mkCt nb n su nx) W))
            clear hP hm HLx hb hx hf hg hR hlb hcb
            go_wp2_with (first | (go_at_call 103; refine (HC.out _).mono ?_; rintro e w5 ⟨rfl, hx5⟩; obtain ⟨e9, e0, e1, e2, e3, k0, k1, k2, k3⟩ := hres.ext hx5; obtain ⟨d9, d0, d1, d2, d3, l0, l1, l2, l3⟩ := hbox.ext hx5) | (go_at_call 104; refine (HVa.out _).mono ?_; rintro e w6 ⟨rfl, hx6⟩; (first | (have hc6 := ((((hbox.ext hx5).set1 n).set2 su).ext ((Ext.refl _).alloc _)).ext hx6; have hr6 := ((((hres.ext hx5).other hd1 _).other hd1 _).ext ((Ext.refl _).alloc _)).ext hx6) | (have hc6 := ((((hbox.ext hx5).ext ((Ext.refl _).alloc _)).set1 n).set2 su).ext hx6; have hr6 := ((((hres.ext hx5).ext ((Ext.refl _).alloc _)).other hd1 _).other hd1 _).ext hx6)); have HX6 := Lib.hid hx6; clear hx6; obtain ⟨p9, p0, p1, p2, p3, q0, q1, q2, q3⟩ := hc6; obtain ⟨r9, r0, r1, r2, r3, t0, t1, t2, t3⟩ := hr6))
            refine bodyPost_ret (v := .tuple #[.agg #[.int .i64 0, .int .i64 0, .int .i64 0, .int .i64 0], .int .i64 5]) (by simp [results, Tryz.results49, go_sem, *]) rfl ?_
            exact ⟨by rw [HF.out]; rfl, by
              iterate 4 (refine Ext.setCell ?_ (Nat.le_refl _) _)
              refine Ext.trans ?_ HX6.out
              repeat (first | exact hxc.trans hx5 | refine Ext.alloc ?_ _ | refine Ext.setCell ?_ (by show w.heap.size ≤ b0; omega) _)⟩
          | true =>
            have HF := Lib.hid (show parseP s.data.toList = (mkCt nb n su nx, 0) by rw [hP, hR, hcb]; rfl)
            have HVa := Lib.hid (fun W => (show Calls Tryz.prog 104 #[.agg #[.int .i64 nb, .int .i64 n, .int .i64 su, .int .i64 nx]] W (BoolPost true W) from hcb ▸ valid_any (mkCt nb n su nx) W))
            clear hP hm HLx hb hx hf hg hR hlb hcb
            go_wp2_with (first | (go_at_call 103; refine (HC.out _).mono ?_; rintro e w5 ⟨rfl, hx5⟩; obtain ⟨e9, e0, e1, e2, e3, k0, k1, k2, k3⟩ := hres.ext hx5; obtain ⟨d9, d0, d1, d2, d3, l0, l1, l2, l3⟩ := hbox.ext hx5) | (go_at_call 104; refine (HVa.out _).mono ?_; rintro e w6 ⟨rfl, hx6⟩; (first | (have hc6 := ((((hbox.ext hx5).set1 n).set2 su).ext ((Ext.refl _).alloc _)).ext hx6; have hr6 := ((((hres.ext hx5).other hd1 _).other hd1 _).ext ((Ext.refl _).alloc _)).ext hx6) | (have hc6 := ((((hbox.ext hx5).ext ((Ext.refl _).alloc _)).set1 n).set2 su).ext hx6; have hr6 := ((((hres.ext hx5).ext ((Ext.refl _).alloc _)).other hd1 _).other hd1 _).ext hx6)); have HX6 := Lib.hid hx6; clear hx6; obtain ⟨p9, p0, p1, p2, p3, q0, q1, q2, q3⟩ := hc6; obtain ⟨r9, r0, r1, r2, r3, t0, t1, t2, t3⟩ := hr6))
            refine bodyPost_ret (v := .tuple #[.agg #[.int .i64 nb, .int .i64 n, .int .i64 su, .int .i64 nx], .int .i64 0]) (by simp [results, Tryz.results49, go_sem, *]) rfl ?_
            exact ⟨by rw [HF.out]; rfl, by
              iterate 4 (refine Ext.setCell ?_ (Nat.le_refl _) _)
              refine Ext.trans ?_ HX6.out
              repeat (first | exact hxc.trans hx5 | refine Ext.alloc ?_ _ | refine Ext.setCell ?_ (by show w.heap.size ≤ b0; omega) _)⟩
end Go.Proofs.YtdbnddmncbjobaaGreatDoor

/- The contracts of the law's 'fails' and of the reference's generator of citations. -/
namespace Go.Proofs.YtdbnddmncbjobaaGreatDoor
open Go Go.RowKit

set_option maxRecDepth 100000 in
theorem fails_any (s : ByteArray) (er : Int) (w : World) (hs : s.size ≤ 281474976710656) (hE : Env w) (hp : parseP s.data.toList = (ct0, er)) :
    Calls Tryz.prog 95 #[.string s, .int .i64 er] w (BoolPost true w) := by
  have H := Lib.hid (show ∀ W, Ext w W → Calls Tryz.prog 49 #[.string s] W (fun e W' => e = .returned (.tuple #[.agg #[.int .i64 0, .int .i64 0, .int .i64 0, .int .i64 0], .int .i64 er]) ∧ Ext W W') from fun W hW => by
    have := cparse_any s W hs (hE.ext hW); rw [hp] at this; exact this)
  clear hp hE
  go_enter Tryz.func95, Tryz.ntmps95
  go_wp2_with (first | (go_at_call 49; refine (H.out _ (Ext.refl _)).mono ?_; rintro e w1 ⟨rfl, hx⟩))
  go_ret
  exact ⟨rfl, hx.alloc _⟩
/-- rollbookref01.Around. -/
def arndC (n m : Int) : Int := (if n < 0 then -(n + 1) else n) % m
theorem arnd_inC (n m : Int) (h : 1 ≤ m) : 0 ≤ arndC n m ∧ arndC n m < m :=
  ⟨Int.emod_nonneg _ (by omega), Int.emod_lt_of_pos _ (by omega)⟩
theorem arnd_negC {n m : Int} (h : n < 0) : -((n + 1).tmod m) = arndC n m := by
  unfold arndC
  rw [if_pos h, ← Int.neg_tmod, Int.tmod_eq_emod_of_nonneg (by omega)]
theorem arnd_posC {n m : Int} (h : ¬ n < 0) : n % m = arndC n m := by unfold arndC; rw [if_neg h]
theorem around_fnC (n m : Int) (w : World) (h1 : -9223372036854775808 ≤ n) (h2 : n ≤ 9223372036854775807) (h3 : 1 ≤ m) (h4 : m ≤ 1000000000) :
    Calls Tryz.prog 42 #[.int .i64 n, .int .i64 m] w fun e w' => e = .returned (.int .i64 (arndC n m)) ∧ w = w' := by
  by_cases h : n < 0
  · have hb := neg_tmod_inC n m h h3
    have HB := Lib.hid hb; clear hb
    have HE := Lib.hid (arnd_negC (m := m) h)
    go_enter Tryz.func42, Tryz.ntmps42
    go_wp2
    go_ret
    exact ⟨ret_int (by simpa using HE.out), rfl⟩
  · have HE := Lib.hid (arnd_posC (m := m) h)
    go_enter Tryz.func42, Tryz.ntmps42
    go_wp2
    go_ret
    exact ⟨ret_int (by simpa using HE.out), rfl⟩
/-- rollbookref29.Cite. -/
def citOf (n : Int) : Ct :=
  if arndC n 1000000000 % 7 = 0 then ⟨arndC n 1000000000 % 256, 1 + arndC n 1000000000 % 16384, arndC n 1000000000 / 16384 % 16385, 1 + arndC n 1000000000 % 100⟩
  else ⟨arndC n 1000000000 % 4, 1 + arndC n 1000000000 / 4 % 6, arndC n 1000000000 / 24 % 3, 1 + arndC n 1000000000 / 72 % 12⟩
theorem citOf_ok (n : Int) : citB (citOf n) = true := by
  obtain ⟨h1, h2⟩ := arnd_inC n 1000000000 (by omega)
  unfold citOf
  split <;> (apply citB_yes <;> simp only [labB] <;> (try simp only [Bool.and_eq_true, decide_eq_true_eq]) <;> omega)
def CitePost (n : Int) (w : World) (e : Ending) (w' : World) : Prop := e = .returned (citOf n).val ∧ Ext w w'
set_option maxHeartbeats 2000000 in
set_option maxRecDepth 100000 in
theorem cite_any (n : Int) (w : World) (h1 : -9223372036854775808 ≤ n) (h2 : n ≤ 9223372036854775807) : Calls Tryz.prog 43 #[.int .i64 n] w (CitePost n w) := by
  have HA := Lib.hid (fun W => around_fnC n 1000000000 W h1 h2 (by omega) (by omega))
  have hr := arnd_inC n 1000000000 (by omega)
  have hr0 := hr.1
  have hr1 := hr.2
  have HC := Lib.hid (show citOf n = if arndC n 1000000000 % 7 = 0 then ⟨arndC n 1000000000 % 256, 1 + arndC n 1000000000 % 16384, arndC n 1000000000 / 16384 % 16385, 1 + arndC n 1000000000 % 100⟩
    else ⟨arndC n 1000000000 % 4, 1 + arndC n 1000000000 / 4 % 6, arndC n 1000000000 / 24 % 3, 1 + arndC n 1000000000 / 72 % 12⟩ from rfl)
  generalize arndC n 1000000000 = r at HA hr0 hr1 HC
  clear h1 h2 hr
  by_cases h7 : r % 7 = 0
  · have hb7 : (r % 7 == 0) = true := by simpa using h7
    have HF := Lib.hid (show citOf n = ⟨r % 256, 1 + r % 16384, r / 16384 % 16385, 1 + r % 100⟩ by rw [HC.out, if_pos h7])
    clear h7
    go_enter Tryz.func43, Tryz.ntmps43
    go_wp2_with (first | (go_at_call 42; refine (HA.out _).mono ?_; rintro e w1 ⟨rfl, rfl⟩))
    refine bodyPost_ret (v := .agg #[.int .i64 (r % 256), .int .i64 (1 + r % 16384), .int .i64 (r / 16384 % 16385), .int .i64 (1 + r % 100)]) (by simp [results, Tryz.results43, go_sem]) rfl ?_
    exact ⟨by rw [HF.out]; rfl, by repeat (first | exact Ext.refl _ | refine Ext.alloc ?_ _)⟩
  · have hb7 : (r % 7 == 0) = false := by simpa using h7
    have HF := Lib.hid (show citOf n = ⟨r % 4, 1 + r / 4 % 6, r / 24 % 3, 1 + r / 72 % 12⟩ by rw [HC.out, if_neg h7])
    clear h7
    go_enter Tryz.func43, Tryz.ntmps43
    go_wp2_with (first | (go_at_call 42; refine (HA.out _).mono ?_; rintro e w1 ⟨rfl, rfl⟩))
    refine bodyPost_ret (v := .agg #[.int .i64 (r % 4), .int .i64 (1 + r / 4 % 6), .int .i64 (r / 24 % 3), .int .i64 (1 + r / 72 % 12)]) (by simp [results, Tryz.results43, go_sem]) rfl ?_
    exact ⟨by rw [HF.out]; rfl, by repeat (first | exact Ext.refl _ | refine Ext.alloc ?_ _)⟩
end Go.Proofs.YtdbnddmncbjobaaGreatDoor

/- The contracts of slices.Grow at nil and of slices.Concat at two lists of paragraphs. -/
namespace Go.Proofs.YtdbnddmncbjobaaGreatDoor
open Go Go.RowKit

theorem info44 : (Tryz.prog.info? 54).map (fun i => (i.zero, i.size, i.bytes)) = some (some (.slice none 0 0), 1, 24) := by kernel_rfl
theorem info25 : (Tryz.prog.info? 69).map (fun i => (i.zero, i.size, i.bytes)) = some (some (.agg #[.int .i64 0, .int .i64 0, .int .i64 0, .int .i64 0]), 4, 32) := by kernel_rfl
/-- A slice as plain data. -/
structure SlC where
  A : Option Addr
  n : Nat
  c : Nat
def SlC.val (s : SlC) : Value := .slice s.A s.n s.c
def slcC (s : SlC) : List Value := [s.val]
theorem slc_lenC (a : SlC) : (slcC a).length = 1 := rfl
theorem slc_oneC (a : SlC) : ∀ u ∈ slcC a, u.oneCell' = true := fun u hu => by
  obtain rfl : u = a.val := by simpa [slcC] using hu
  rfl
def GrowPost (w : World) (e : Ending) (w' : World) : Prop := ∃ A c, e = .returned (.slice A 0 c) ∧ OL slcC 1 w' w.heap.size 54 (.slice A 0 c) [] ∧ Ext w w'
set_option maxHeartbeats 2000000 in
set_option maxRecDepth 100000 in
theorem grow_any (n : Nat) (w : World) (hn : n ≤ 100000) : Calls Tryz.prog 125 #[.slice none 0 0, .int .i64 n] w (GrowPost w) := by
  by_cases h0 : n = 0
  · subst h0
    go_enter Tryz.func125, Tryz.ntmps125
    go_wp2
    go_ret
    exact ⟨none, 0, rfl, OL.nil _ _ _, Ext.refl _⟩
  · obtain ⟨i, hi, hz, hs, hb⟩ := info_parts info44
    have hrun := fun W => Lib.run_append_nil_zeros (P := Tryz.prog) W 51 3 51 54 i _ .i64 .i64 Tryz.underlying51 Tryz.underlying3 hi hz n (by omega) (by omega) (by omega) (by rw [hb]; omega)
    have HRUN := Lib.hid hrun
    have hne : ¬ (n : Int) < 0 := by omega
    have hpo : (0 : Int) < (n : Int) := by omega
    clear hrun hi hs hb
    have hz' : (Value.slice none 0 0).cells.size = 1 := rfl
    go_enter Tryz.func125, Tryz.ntmps125
    go_wp2_with (first | (at_builtin; refine Lib.wpList_append_run _ rfl (.tmp 20) (.tmp 21) 51 3 rfl _ _ rfl rfl _ _ (HRUN.out _) ?_))
    go_ret
    refine ⟨_, _, rfl, ⟨by simp [gcells], .inr ⟨w.heap.size, _, _, rfl, Nat.le_refl _, heap_alloc_new w _, Nat.zero_le _, grownCap_le_maxLen _ _ _ _ (by unfold maxLen; omega), ?_, by simp [gcells]⟩⟩, ((Ext.refl w).alloc _).drew⟩
    have hg := grownCap_ge w n 0 54
    rw [Array.size_append, size_zeroCells, size_zeroCells]
    simp
    omega
def CatPost (W : World) (l : List SlC) (e : Ending) (W' : World) : Prop := ∃ A c, e = .returned (.slice A l.length c) ∧ SL slcC 1 W' A l.length l ∧ Ext W W'
def Cat1C (m1 m2 : Nat) (s3 s11 : Value) : Prop := (s11 = .int .i64 0 ∧ s3 = .int .i64 0) ∨ (s11 = .int .i64 1 ∧ s3 = .int .i64 m1) ∨ (s11 = .int .i64 2 ∧ s3 = .int .i64 ((m1 : Int) + (m2 : Int)))
def Cat2C (W : World) (m1 m2 : Nat) (l1 l2 : List SlC) (s6 s27 : Value) (w' : World) : Prop := Ext W w' ∧ ((s27 = .int .i64 0 ∧ OL slcC 1 w' W.heap.size 54 s6 [] ∧ ∃ A c, s6 = .slice A 0 c) ∨
  (s27 = .int .i64 1 ∧ OL slcC 1 w' W.heap.size 54 s6 l1 ∧ ∃ A c, s6 = .slice A m1 c) ∨ (s27 = .int .i64 2 ∧ OL slcC 1 w' W.heap.size 54 s6 (l1 ++ l2) ∧ ∃ A c, s6 = .slice A (m1 + m2) c))
def upMC (v : Value) : Nat := match v with | .int _ z => 2 - z.toNat | _ => 0
theorem ap40 {w : World} {base : Nat} {v : Value} {l : List SlC} (h : OL slcC 1 w base 54 v l) {A : Option Addr} {m : Nat} {l' : List SlC} (hs : SL slcC 1 w A m l') (c : Nat) (hm : l.length + m ≤ 100000000) (hbase : base ≤ w.heap.size) :
    ∃ A' c' w', (Builtin.append_ #[51, 51] 51 #[v, .slice A m c]).run Tryz.prog w = .ok (.slice A' (l.length + m) c') w' ∧ OL slcC 1 w' base 54 (.slice A' (l.length + m) c') (l ++ l') ∧ (∀ B, B ≤ base → Below B w w') ∧
      (∀ k, k < w.heap.size → (∀ a, v ≠ .slice (some ⟨k, 0, none⟩) l.length a) → w'.heap[k]? = w.heap[k]?) :=
  OL.append slc_lenC slc_oneC (by omega) Tryz.underlying51 info44 rfl (by omega) h hs c hm hbase
set_option maxHeartbeats 4000000 in
set_option maxRecDepth 100000 in
theorem concat_any (W : World) (g : Nat) (A1 A2 : Option Addr) (c1 c2 : Nat) (l1 l2 : List SlC) (h1 : SL slcC 1 W A1 l1.length l1) (h2 : SL slcC 1 W A2 l2.length l2) (hl1 : l1.length ≤ 10000) (hl2 : l2.length ≤ 10000)
    (hg : g < W.heap.size) (hg0 : W.cell? ⟨g, 0, none⟩ = some (.slice A1 l1.length c1)) (hg1 : W.cell? ⟨g, 1, none⟩ = some (.slice A2 l2.length c2)) :
    Calls Tryz.prog 72 #[.slice (some ⟨g, 0, none⟩) 2 2] W (CatPost W (l1 ++ l2)) := by
  have H1 := Lib.hid h1
  have H2 := Lib.hid h2
  have HGW := Lib.hid (fun W' => (show Calls Tryz.prog 125 #[.slice none 0 0, .int .i64 ((l1.length : Int) + (l2.length : Int))] W' (GrowPost W') from by
    have := grow_any (l1.length + l2.length) W' (by omega)
    rwa [Int.natCast_add] at this))
  clear h1 h2
  generalize hm1 : l1.length = m1 at *
  generalize hm2 : l2.length = m2 at *
  have HM1 := Lib.hid hm1
  have HM2 := Lib.hid hm2
  clear hm1 hm2
  go_enter Tryz.func72, Tryz.ntmps72
  go_wp2_with fail
  go_loop [3, 11] (fun s3 s11 => Cat1C m1 m2 s3 s11) (fun _ s11 => upMC s11)
  case atStart => exact .inl ⟨rfl, rfl⟩
  case round =>
    rcases hrel with ⟨rfl, rfl⟩ | ⟨rfl, rfl⟩ | ⟨rfl, rfl⟩
    · go_wp2_with fail
      exact ⟨.inr (.inl ⟨rfl, rfl⟩), by simp [upMC]⟩
    · go_wp2_with fail
      exact ⟨.inr (.inr ⟨rfl, rfl⟩), by simp [upMC]⟩
    · go_wp2_with (first | (go_at_call 125; refine (HGW.out _).mono ?_; rintro e w1 ⟨A, c, rfl, ho, hx⟩))
      have HO := Lib.hid ho
      have HX := Lib.hid hx
      clear ho hx
      go_loopw [6, 27] (fun s6 s27 w' => Cat2C W m1 m2 l1 l2 s6 s27 w') (fun _ s27 _ => upMC s27)
      case atStart => exact ⟨HX.out, .inl ⟨rfl, HO.out, _, _, rfl⟩⟩
      case round =>
        obtain ⟨hxr, hrel⟩ := hrel
        have HXR := Lib.hid hxr
        obtain ⟨q, _⟩ := hxr.cells
        have hq0 := (q g 0 hg).trans hg0
        have hq1 := (q g 1 hg).trans hg1
        have hle := hxr.lt
        clear q hxr
        rcases hrel with ⟨rfl, ho, A', c', rfl⟩ | ⟨rfl, ho, A', c', rfl⟩ | ⟨rfl, ho, A', c', rfl⟩
        · obtain ⟨A3, c3, w3, hrun, ho3, hb3, _⟩ := ap40 ho (H1.out.ext HXR.out) c1 (by simp; omega) hle
          have HO3 := Lib.hid ho3
          have HB3 := Lib.hid hb3
          clear ho ho3 hb3
          go_wp2_with (first | (at_builtin; refine wpList_append_run (s := .tmp 31) (x := .tmp 32) hrun rfl rfl rfl rfl rfl ?_))
          refine ⟨⟨?_, .inr (.inl ⟨rfl, by simpa using HO3.out, A3, c3, rfl⟩)⟩, by simp [upMC]⟩
          exact Below.trans HXR.out (HB3.out _ (Nat.le_refl _))
        · obtain ⟨A3, c3, w3, hrun, ho3, hb3, _⟩ := ap40 ho (H2.out.ext HXR.out) c2 (by have := HM1.out; omega) hle
          have HO3 := Lib.hid ho3
          have HB3 := Lib.hid hb3
          rw [HM1.out] at hrun
          clear ho ho3 hb3
          go_wp2_with (first | (at_builtin; refine wpList_append_run (s := .tmp 31) (x := .tmp 32) hrun rfl rfl rfl rfl rfl ?_))
          refine ⟨⟨?_, .inr (.inr ⟨rfl, by have := HO3.out; rw [HM1.out] at this; exact this, A3, c3, rfl⟩)⟩, by simp [upMC]⟩
          exact Below.trans HXR.out (HB3.out _ (Nat.le_refl _))
        · have HO := Lib.hid ho
          clear ho
          go_wp2_with fail
          go_ret
          obtain ⟨A9, c9, e9, _, hs9⟩ := OL.form slc_lenC HO.out
          injection e9 with e1 e2 e3
          subst e1 e3
          refine ⟨A', c', ?_, hs9, HXR.out⟩
          rw [List.length_append, HM1.out, HM2.out]
          rfl
end Go.Proofs.YtdbnddmncbjobaaGreatDoor

/- The contract of cite.Scan. -/
namespace Go.Proofs.YtdbnddmncbjobaaGreatDoor
open Go Go.RowKit

/-- A word of a text as plain data. -/
structure WdC where
  s : ByteArray
  key : ByteArray
  tb : Int
  nt : Int
def wcfC (w : WdC) : List Value := [.string w.s, .string w.key, .int .i64 w.tb, .int .i64 w.nt]
def ccfC (c : Ct) : List Value := [.int .i64 c.br, .int .i64 c.nu, .int .i64 c.su, .int .i64 c.li]
theorem wcf_lenC (a : WdC) : (wcfC a).length = 4 := rfl
theorem ccf_lenC (a : Ct) : (ccfC a).length = 4 := rfl
theorem ccf_oneC (a : Ct) : ∀ u ∈ ccfC a, u.oneCell' = true := fun u hu => by
  simp only [ccfC, List.mem_cons, List.not_mem_nil, or_false] at hu
  rcases hu with rfl | rfl | rfl | rfl <;> rfl
/-- The paragraphs ps hold the words ll. -/
def TX (W : World) (ps : List SlC) (ll : List (List WdC)) : Prop := ps.length = ll.length ∧ ∀ (i : Nat) (s : SlC) (l : List WdC), ps[i]? = some s → ll[i]? = some l → SL wcfC 4 W s.A s.n l ∧ l.length ≤ 100000 ∧ ∀ w ∈ l, w.s.size ≤ 281474976710656
theorem TX.ext {W W' : World} {ps : List SlC} {ll : List (List WdC)} (h : TX W ps ll) (hx : Ext W W') : TX W' ps ll :=
  ⟨h.1, fun i s l h1 h2 => ⟨(h.2 i s l h1 h2).1.ext hx, (h.2 i s l h1 h2).2⟩⟩
/-- The citations of some words. -/
def scanW (l : List WdC) : List Ct := l.filterMap fun w => if (parseP w.s.data.toList).2 = 0 then some (parseP w.s.data.toList).1 else none
def scanP (ll : List (List WdC)) : List Ct := ll.flatMap scanW
theorem scanW_len (l : List WdC) : (scanW l).length ≤ l.length := List.length_filterMap_le _ _
theorem scanW_step (l : List WdC) (k : Nat) (w : WdC) (h : l[k]? = some w) : scanW (l.take (k + 1)) = scanW (l.take k) ++ (if (parseP w.s.data.toList).2 = 0 then [(parseP w.s.data.toList).1] else []) := by
  have e : l.take (k + 1) = l.take k ++ [w] := by rw [List.take_add_one, h]; rfl
  rw [e]; unfold scanW; rw [List.filterMap_append]
  congr 1
  simp only [List.filterMap_cons, List.filterMap_nil]
  split <;> simp_all
theorem scanP_step (ll : List (List WdC)) (i : Nat) (l : List WdC) (h : ll[i]? = some l) : scanP (ll.take (i + 1)) = scanP (ll.take i) ++ scanW l := by
  have e : ll.take (i + 1) = ll.take i ++ [l] := by rw [List.take_add_one, h]; rfl
  rw [e]; unfold scanP; rw [List.flatMap_append]; simp
theorem ap47 {w : World} {base : Nat} {v : Value} {l : List Ct} (h : OL ccfC 4 w base 69 v l) {A : Option Addr} {m : Nat} {l' : List Ct} (hs : SL ccfC 4 w A m l') (c : Nat) (hm : l.length + m ≤ 100000000) (hbase : base ≤ w.heap.size) :
    ∃ A' c' w', (Builtin.append_ #[38, 38] 38 #[v, .slice A m c]).run Tryz.prog w = .ok (.slice A' (l.length + m) c') w' ∧ OL ccfC 4 w' base 69 (.slice A' (l.length + m) c') (l ++ l') ∧ (∀ B, B ≤ base → Below B w w') ∧
      (∀ k, k < w.heap.size → (∀ a, v ≠ .slice (some ⟨k, 0, none⟩) l.length a) → w'.heap[k]? = w.heap[k]?) :=
  OL.append ccf_lenC ccf_oneC (by omega) Tryz.underlying38 info25 rfl (by omega) h hs c hm hbase
def ScanPost (W : World) (l : List Ct) (e : Ending) (W' : World) : Prop := ∃ A c, e = .returned (.slice A l.length c) ∧ SL ccfC 4 W' A l.length l ∧ Ext W W'
def OutRel (W : World) (ll : List (List WdC)) (n : Nat) (s3 s17 : Value) (w' : World) : Prop :=
  ∃ i A c, i ≤ n ∧ s17 = .int .i64 (i : Nat) ∧ s3 = .slice A (scanP (ll.take i)).length c ∧ OL ccfC 4 w' W.heap.size 69 s3 (scanP (ll.take i)) ∧ Ext W w'
def InRel (W : World) (out : List Ct) (l : List WdC) (n : Nat) (s3 s23 : Value) (w' : World) : Prop :=
  ∃ k A c, k ≤ n ∧ s23 = .int .i64 (k : Nat) ∧ s3 = .slice A (out.length + (scanW (l.take k)).length) c ∧ OL ccfC 4 w' W.heap.size 69 s3 (out ++ scanW (l.take k)) ∧ Ext W w'
def toMC (n : Nat) (v : Value) : Nat := match v with | .int _ z => n - z.toNat | _ => 0
theorem app47_one (X : World) {base : Nat} {v : Value} {l : List Ct} (ho : OL ccfC 4 X base 69 v l) (c : Ct) (b : Nat) (hb : b = X.heap.size) (hm : l.length ≤ 10000000) (hbase : base ≤ X.heap.size) :
    ∃ A' c' w', (Builtin.append_ #[38, 38] 38 #[v, .slice (some ⟨b, 0, none⟩) 1 1]).run Tryz.prog (X.alloc (.cells #[.int .i64 c.br, .int .i64 c.nu, .int .i64 c.su, .int .i64 c.li] 69)) = .ok (.slice A' (l.length + 1) c') w' ∧ OL ccfC 4 w' base 69 (.slice A' (l.length + 1) c') (l ++ [c]) ∧ Below base X w' := by
  subst hb
  obtain ⟨A', c', w', h1, h2, h3, _⟩ := ap47 (ho.ext ((Ext.refl X).alloc _)) (SL.one (cf := ccfC) (sz := 4) X c #[.int .i64 c.br, .int .i64 c.nu, .int .i64 c.su, .int .i64 c.li] rfl 69) 1 (by omega) (by simp; omega)
  exact ⟨A', c', w', h1, h2, Below.trans (Below.mono ((Ext.refl X).alloc _) hbase) (h3 base (Nat.le_refl _))⟩
set_option maxHeartbeats 4000000 in
set_option maxRecDepth 100000 in
theorem scan_any (W : World) (A1 A2 : Option Addr) (c1 c2 : Nat) (l1 l2 : List SlC) (ll : List (List WdC)) (h1 : SL slcC 1 W A1 l1.length l1) (h2 : SL slcC 1 W A2 l2.length l2) (hl1 : l1.length ≤ 10000) (hl2 : l2.length ≤ 10000)
    (hT : TX W (l1 ++ l2) ll) (hout : (scanP ll).length ≤ 1000000) (hE : Env W) :
    Calls Tryz.prog 94 #[.agg #[.slice A1 l1.length c1, .slice A2 l2.length c2]] W (ScanPost W (scanP ll)) := by
  have HT := Lib.hid hT
  have HE := Lib.hid hE
  have HO := Lib.hid hout
  have H1 := Lib.hid h1
  have H2 := Lib.hid h2
  have HL1 := Lib.hid hl1
  have HL2 := Lib.hid hl2
  clear h1 h2 hl1 hl2 hT hout hE
  go_enter Tryz.func94, Tryz.ntmps94
  go_wp2_with (first | (go_at_call 72; refine (concat_any _ _ A1 A2 c1 c2 l1 l2 (H1.out.ext (by repeat (first | exact Ext.refl _ | refine Ext.alloc ?_ _))) (H2.out.ext (by repeat (first | exact Ext.refl _ | refine Ext.alloc ?_ _))) HL1.out HL2.out ?_ ?_ ?_).mono ?_; (go_simp); (go_simp); (go_simp); rintro e w1 ⟨A, c, rfl, hs, hx⟩))
  have HS := Lib.hid hs
  have hxw : Ext W w1 := by
    refine Ext.trans ?_ hx
    repeat (first | exact Ext.refl _ | refine Ext.alloc ?_ _)
  have HXW := Lib.hid hxw
  clear hs hx
  have HTX := Lib.hid (HT.out.ext hxw)
  clear hxw
  go_loopw [3, 17] (fun s3 s17 w' => OutRel w1 ll (l1.length + l2.length) s3 s17 w') (fun _ s17 _ => toMC (l1.length + l2.length) s17)
  case atStart => exact ⟨0, none, 0, by omega, rfl, rfl, OL.nil _ _ _, Ext.refl _⟩
  case round =>
    obtain ⟨i, A3, c3, hi, rfl, rfl, ho, hxr⟩ := hrel
    have HOL := Lib.hid ho
    have HXR := Lib.hid hxr
    clear ho hxr
    by_cases hin : i < l1.length + l2.length
    · obtain ⟨b, off, s, rfl, hb, hps, _, hcs⟩ := SL.at (HS.out.ext HXR.out) (k := i) (by simpa using hin)
      obtain ⟨l, hll⟩ : ∃ l, ll[i]? = some l := ⟨_, List.getElem?_eq_getElem (by have := HT.out.1; simp at this; omega)⟩
      obtain ⟨hSw, hlen, hsz⟩ := HTX.out.2 i s l hps hll
      have hc0 := hcs 0 s.val rfl
      rw [Nat.mul_one, Nat.add_zero] at hc0
      obtain ⟨sA, sn, sc⟩ := s
      have HSW := Lib.hid hSw
      have HSZ := Lib.hid hsz
      have HST := Lib.hid (scanP_step ll i l hll)
      have hsn : sn = l.length := hSw.1
      have HSN := Lib.hid hsn
      have hsn2 : sn ≤ 100000 := by omega
      simp only [SlC.val] at hc0
      have hsum : (scanP (ll.take i)).length ≤ 1000000 := by
        refine Nat.le_trans ?_ HO.out
        have e : scanP ll = scanP (ll.take i) ++ scanP (ll.drop i) := by unfold scanP; rw [← List.flatMap_append, List.take_append_drop]
        rw [e, List.length_append]; omega
      have hi3 : (i : Int) ≤ 20000 := by have := HL1.out; have := HL2.out; omega
      generalize scanP (ll.take i) = out at *
      clear hcs hps hll hSw hlen hsz hsn
      have hi2 : (i : Int) < (l1.length : Int) + (l2.length : Int) := by omega
      go_wp2_with fail
      go_loopw [3, 23] (fun s3 s23 w' => InRel w1 out l sn s3 s23 w') (fun _ s23 _ => toMC sn s23)
      case atStart => exact ⟨0, A3, c3, by omega, rfl, by simp [scanW], by simpa [scanW] using HOL.out, HXR.out⟩
      case round =>
        obtain ⟨k, A4, c4, hk, rfl, rfl, ho4, hxr4⟩ := hrel
        have HOL4 := Lib.hid ho4
        have HXR4 := Lib.hid hxr4
        clear ho4 hxr4
        by_cases hkn : k < sn
        · obtain ⟨b2, off2, wd, rfl, hb2, hwk, hwm, hwc⟩ := SL.at (HSW.out.ext (HXR4.out)) hkn
          have hwsz := HSZ.out wd hwm
          have d0 := hwc 0 (.string wd.s) rfl
          have d1 := hwc 1 (.string wd.key) rfl
          have d2 := hwc 2 (.int .i64 wd.tb) rfl
          have d3 := hwc 3 (.int .i64 wd.nt) rfl
          rw [Nat.add_zero] at d0
          have hstep := scanW_step l k wd hwk
          have hEnv : ∀ X, Ext wr X → Env X := fun X hX => HE.out.ext ((HXW.out.trans HXR4.out).trans hX)
          have hk2 : (k : Int) < (sn : Int) := by omega
          have hk3 : (k : Int) ≤ 100000 := by omega
          have hlk : (scanW (l.take k)).length ≤ 100000 := Nat.le_trans (scanW_len _) (by rw [List.length_take]; omega)
          rcases parse_cases wd.s.data.toList with (hp | hp) | ⟨c, hp, hcb⟩
          · have HP := Lib.hid (show ∀ X, Ext wr X → Calls Tryz.prog 49 #[.string wd.s] X (fun e X' => e = .returned (.tuple #[.agg #[.int .i64 0, .int .i64 0, .int .i64 0, .int .i64 0], .int .i64 7]) ∧ Ext X X') from fun X hX => by
              have := cparse_any wd.s X hwsz (hEnv X hX); rw [hp] at this; exact this)
            have HSTEP := Lib.hid (show scanW (l.take (k + 1)) = scanW (l.take k) by rw [hstep, hp]; simp)
            clear hstep hp hEnv hwc hwm hwk hwsz
            go_wp2_with (first | (go_at_call 49; refine (HP.out _ ?_).mono ?_; exact (Ext.refl _).alloc _; rintro e w4 ⟨rfl, hx4⟩))
            exact ⟨⟨k + 1, A4, c4, by omega, rfl, by rw [HSTEP.out], by rw [HSTEP.out]; exact HOL4.out.ext ((((Ext.refl _).alloc _).trans hx4).alloc _), HXR4.out.trans ((((Ext.refl _).alloc _).trans hx4).alloc _)⟩, by simp [toMC]; omega⟩
          · have HP := Lib.hid (show ∀ X, Ext wr X → Calls Tryz.prog 49 #[.string wd.s] X (fun e X' => e = .returned (.tuple #[.agg #[.int .i64 0, .int .i64 0, .int .i64 0, .int .i64 0], .int .i64 5]) ∧ Ext X X') from fun X hX => by
              have := cparse_any wd.s X hwsz (hEnv X hX); rw [hp] at this; exact this)
            have HSTEP := Lib.hid (show scanW (l.take (k + 1)) = scanW (l.take k) by rw [hstep, hp]; simp)
            clear hstep hp hEnv hwc hwm hwk hwsz
            go_wp2_with (first | (go_at_call 49; refine (HP.out _ ?_).mono ?_; exact (Ext.refl _).alloc _; rintro e w4 ⟨rfl, hx4⟩))
            exact ⟨⟨k + 1, A4, c4, by omega, rfl, by rw [HSTEP.out], by rw [HSTEP.out]; exact HOL4.out.ext ((((Ext.refl _).alloc _).trans hx4).alloc _), HXR4.out.trans ((((Ext.refl _).alloc _).trans hx4).alloc _)⟩, by simp [toMC]; omega⟩
          · have HP := Lib.hid (show ∀ X, Ext wr X → Calls Tryz.prog 49 #[.string wd.s] X (fun e X' => e = .returned (.tuple #[.agg #[.int .i64 c.br, .int .i64 c.nu, .int .i64 c.su, .int .i64 c.li], .int .i64 0]) ∧ Ext X X') from fun X hX => by
              have := cparse_any wd.s X hwsz (hEnv X hX); rw [hp] at this; exact this)
            have HSTEP := Lib.hid (show scanW (l.take (k + 1)) = scanW (l.take k) ++ [c] by rw [hstep, hp]; simp)
            have hli := (citB_cases hcb).2.2.1
            have hli2 : (c.li == 0) = false := by simpa using (show ¬ c.li = 0 by omega)
            clear hstep hp hEnv hwc hwm hwk hwsz hcb
            go_upto_region 10 with (first | (go_at_call 49; refine (HP.out _ ?_).mono ?_; exact (Ext.refl _).alloc _; rintro e w4 ⟨rfl, hx4⟩))
            have hle4 : w1.heap.size ≤ w4.heap.size := Nat.le_trans HXR4.out.lt (Nat.le_trans (((Ext.refl _).alloc _).trans hx4).lt (Nat.le_refl _))
            obtain ⟨A5, c5, w5, hrun, ho5, hb5⟩ := app47_one (w4.alloc (.cells #[.int .i64 c.br, .int .i64 c.nu, .int .i64 c.su, .int .i64 c.li] 69)) (HOL4.out.ext ((((Ext.refl _).alloc _).trans hx4).alloc _)) c (w4.heap.size + 1) (by simp) (by rw [List.length_append]; omega) (by simp; omega)
            rw [List.length_append] at hrun ho5
            have HO5 := Lib.hid ho5
            have HB5 := Lib.hid hb5
            clear ho5 hb5
            go_wp2_with (first | (at_builtin; refine wpList_append_run (s := .tmp 40) (x := .tmp 42) hrun rfl rfl rfl rfl rfl ?_))
            refine ⟨⟨k + 1, A5, c5, by omega, rfl, by rw [HSTEP.out, List.length_append, List.length_singleton, Nat.add_assoc], by rw [HSTEP.out, ← List.append_assoc]; exact HO5.out, ?_⟩, by simp [toMC]; omega⟩
            exact Below.trans (HXR4.out.trans ((((Ext.refl _).alloc _).trans hx4).alloc _)) HB5.out
        · have hni : ¬ ((k : Int) < (sn : Int)) := by omega
          go_wp2_with fail
          have hkl : l.take k = l := List.take_of_length_le (by have := HSN.out; omega)
          refine ⟨⟨i + 1, A4, c4, by omega, rfl, by rw [HST.out, hkl, List.length_append], by rw [HST.out]; have := HOL4.out; rw [hkl] at this; rw [hkl]; exact this, HXR4.out⟩, by simp [toMC]; omega⟩
    · have hni : ¬ ((i : Int) < (l1.length : Int) + (l2.length : Int)) := by omega
      go_wp2_with fail
      go_ret
      have hall : ll.take i = ll := List.take_of_length_le (by have := HT.out.1; simp at this; omega)
      have hol := HOL.out
      rw [hall] at hol ⊢
      obtain ⟨A9, c9, e9, _, hs9⟩ := OL.form ccf_lenC hol
      injection e9 with e1 e2 e3
      subst e1 e3
      exact ⟨A3, c3, rfl, hs9, HXW.out.trans HXR.out⟩
end Go.Proofs.YtdbnddmncbjobaaGreatDoor

/- The contract of the law's 'lives': the examples of the chapter. -/
namespace Go.Proofs.YtdbnddmncbjobaaGreatDoor
open Go Go.RowKit

theorem ex1 : parseP [51, 47, 49, 50, 97, 47, 55] = (⟨3, 12, 1, 7⟩, 0) := by kernel_rfl
theorem ex2 : parseP [51, 47, 49, 50, 97] = (ct0, 7) := by kernel_rfl
theorem ex3 : parseP [48, 51, 47, 49, 50, 97, 47, 55] = (ct0, 7) := by kernel_rfl
theorem ex4 : parseP [51, 47, 49, 50, 97, 47, 48, 55] = (ct0, 7) := by kernel_rfl
theorem ex5 : parseP [51, 47, 48, 47, 55] = (ct0, 7) := by kernel_rfl
theorem ex6 : parseP [50, 53, 54, 47, 49, 50, 47, 55] = (ct0, 5) := by kernel_rfl
theorem ex7 : parseP [51, 47, 49, 50, 47, 48] = (ct0, 5) := by kernel_rfl
theorem ex8 : parseP [51, 47, 49, 50, 47, 49, 48, 49] = (ct0, 5) := by kernel_rfl
def exW : List WdC := [⟨⟨#[115, 101, 101]⟩, ⟨#[]⟩, 0, 0⟩, ⟨⟨#[48, 47, 49, 47, 50]⟩, ⟨#[]⟩, 0, 0⟩, ⟨⟨#[48, 47, 49, 47, 50, 44]⟩, ⟨#[]⟩, 0, 0⟩]
theorem ex9 : scanP [exW] = [⟨0, 1, 0, 2⟩] := by kernel_rfl
theorem exT : textPC ⟨3, 12, 1, 7⟩ = [51, 47, 49, 50, 97, 47, 55] := (text_parse ex1).1
theorem exZ : textPC ⟨3, 12, 1, 0⟩ = [] := by unfold textPC; rw [if_neg]; rw [citB_no (.inr (.inr (.inl (by decide))))]; simp
theorem SL.new {α : Type} {cf : α → List Value} {sz : Nat} (hcf : ∀ a, (cf a).length = sz) (w : World) (l : List α) (cs : Array Value) (hcs : cs.toList = gcells cf l) (t : TypeId) : SL cf sz (w.alloc (.cells cs t)) (some ⟨w.heap.size, 0, none⟩) l.length l := by
  refine ⟨rfl, fun _ => ⟨w.heap.size, 0, rfl, by simp, fun i a hi j u hu => ?_⟩⟩
  have hj : j < sz := by rw [← hcf a]; exact (List.getElem?_eq_some_iff.1 hu).1
  rw [cell_of_row _ w.heap.size _ _ t (0, 0) (heap_alloc_new w _)]
  rw [← gcells_at hcf l i a hi j hj, ← hcs] at hu
  simpa using hu
theorem scan_ex (X : World) (hE : Env X) : Calls Tryz.prog 94 #[.agg #[.slice (some ⟨X.heap.size + 1, 0, none⟩) 1 1, .slice none 0 0]]
    ((X.alloc (.cells #[.string ⟨#[115, 101, 101]⟩, .string ⟨#[]⟩, .int .i64 0, .int .i64 0, .string ⟨#[48, 47, 49, 47, 50]⟩, .string ⟨#[]⟩, .int .i64 0, .int .i64 0, .string ⟨#[48, 47, 49, 47, 50, 44]⟩, .string ⟨#[]⟩, .int .i64 0, .int .i64 0] 60)).alloc (.cells #[.slice (some ⟨X.heap.size, 0, none⟩) 3 3] 54)) (ScanPost X [⟨0, 1, 0, 2⟩]) := by
  have h1 := SL.new (cf := wcfC) wcf_lenC X exW #[.string ⟨#[115, 101, 101]⟩, .string ⟨#[]⟩, .int .i64 0, .int .i64 0, .string ⟨#[48, 47, 49, 47, 50]⟩, .string ⟨#[]⟩, .int .i64 0, .int .i64 0, .string ⟨#[48, 47, 49, 47, 50, 44]⟩, .string ⟨#[]⟩, .int .i64 0, .int .i64 0] rfl 60
  have h2 := SL.one (cf := slcC) (sz := 1) (X.alloc (.cells #[.string ⟨#[115, 101, 101]⟩, .string ⟨#[]⟩, .int .i64 0, .int .i64 0, .string ⟨#[48, 47, 49, 47, 50]⟩, .string ⟨#[]⟩, .int .i64 0, .int .i64 0, .string ⟨#[48, 47, 49, 47, 50, 44]⟩, .string ⟨#[]⟩, .int .i64 0, .int .i64 0] 60)) ⟨some ⟨X.heap.size, 0, none⟩, 3, 3⟩ #[.slice (some ⟨X.heap.size, 0, none⟩) 3 3] rfl 54
  rw [World.size_alloc] at h2
  have hx : Ext X ((X.alloc (.cells #[.string ⟨#[115, 101, 101]⟩, .string ⟨#[]⟩, .int .i64 0, .int .i64 0, .string ⟨#[48, 47, 49, 47, 50]⟩, .string ⟨#[]⟩, .int .i64 0, .int .i64 0, .string ⟨#[48, 47, 49, 47, 50, 44]⟩, .string ⟨#[]⟩, .int .i64 0, .int .i64 0] 60)).alloc (.cells #[.slice (some ⟨X.heap.size, 0, none⟩) 3 3] 54)) := ((Ext.refl X).alloc _).alloc _
  have := scan_any _ (some ⟨X.heap.size + 1, 0, none⟩) none 1 0 [⟨some ⟨X.heap.size, 0, none⟩, 3, 3⟩] [] [exW] h2 (SL.nil _) (by simp) (by simp) ⟨rfl, fun i s l hi hl => by
    obtain rfl : i = 0 := by
      have := (List.getElem?_eq_some_iff.1 hi).1
      simp at this; exact this
    obtain rfl : (⟨some ⟨X.heap.size, 0, none⟩, 3, 3⟩ : SlC) = s := by simpa using hi
    obtain rfl : exW = l := by simpa using hl
    refine ⟨h1.ext ((Ext.refl _).alloc _), by simp [exW], fun w hw => ?_⟩
    simp only [exW, List.mem_cons, List.not_mem_nil, or_false] at hw
    rcases hw with rfl | rfl | rfl <;> decide⟩ (by rw [ex9]; simp) (hE.ext hx)
  rw [ex9] at this
  refine this.mono ?_
  rintro e w' ⟨A, c, rfl, hs, hx2⟩
  exact ⟨A, c, rfl, hs, hx.trans hx2⟩
set_option maxHeartbeats 1000000 in
set_option maxRecDepth 100000 in
theorem lives_any (w : World) (hE : Env w) : Calls Tryz.prog 47 #[] w (BoolPost true w) := by
  have HE := Lib.hid (fun X (hX : Ext w X) => hE.ext hX)
  have HP := Lib.hid (show ∀ X, Ext w X → Calls Tryz.prog 49 #[.string ⟨#[51, 47, 49, 50, 97, 47, 55]⟩] X (fun e X' => e = .returned (.tuple #[.agg #[.int .i64 3, .int .i64 12, .int .i64 1, .int .i64 7], .int .i64 0]) ∧ Ext X X') from fun X hX => by
    have := cparse_any ⟨#[51, 47, 49, 50, 97, 47, 55]⟩ X (by decide) (HE.out X hX)
    rw [show parseP ((⟨#[51, 47, 49, 50, 97, 47, 55]⟩ : ByteArray).data.toList) = (⟨3, 12, 1, 7⟩, 0) from ex1] at this; exact this)
  have HT := Lib.hid (show ∀ X, Ext w X → Calls Tryz.prog 50 #[.agg #[.int .i64 3, .int .i64 12, .int .i64 1, .int .i64 7]] X (fun e X' => e = .returned (.string ⟨#[51, 47, 49, 50, 97, 47, 55]⟩) ∧ Ext X X') from fun X hX => by
    have := ctext_any ⟨3, 12, 1, 7⟩ X (HE.out X hX).tab
    rw [exT] at this; exact this)
  have HZ := Lib.hid (show ∀ X, Ext w X → Calls Tryz.prog 50 #[.agg #[.int .i64 3, .int .i64 12, .int .i64 1, .int .i64 0]] X (fun e X' => e = .returned (.string ⟨#[]⟩) ∧ Ext X X') from fun X hX => by
    have := ctext_any ⟨3, 12, 1, 0⟩ X (HE.out X hX).tab
    rw [exZ] at this; exact this)
  have HF := Lib.hid (fun (s : ByteArray) (er : Int) (hp : parseP s.data.toList = (ct0, er)) (hs : s.size ≤ 281474976710656) X (hX : Ext w X) => fails_any s er X hs (HE.out X hX) hp)
  clear hE
  go_enter Tryz.func47, Tryz.ntmps47
  go_upto_region 5 with (first
    | (go_at_call 49; refine (HP.out _ ?_).mono ?_; (repeat (first | exact Ext.refl _ | refine Ext.alloc ?_ _)); rintro e w1 ⟨rfl, hx1⟩))
  have hx2 : Ext w (w1.alloc (.cells #[.int .i64 3, .int .i64 12, .int .i64 1, .int .i64 7] 69)) := by
    refine Ext.alloc (Ext.trans ?_ hx1) _
    repeat (first | exact Ext.refl _ | refine Ext.alloc ?_ _)
  have hs0 := scan_ex _ (HE.out _ hx2)
  simp only [World.size_alloc] at hs0
  have HS := Lib.hid hs0
  clear hs0
  have hd : w.heap.size + 1 < w1.heap.size := by have := hx1.lt; simp at this; omega
  have hd0 : w.heap.size < w1.heap.size := by omega
  obtain ⟨q1, _⟩ := hx1.cells
  have e0 : ∀ i, w1.cell? ⟨w.heap.size, i, none⟩ = _ := fun i => q1 w.heap.size i (by simp; omega)
  have e1 : ∀ i, w1.cell? ⟨w.heap.size + 1, i, none⟩ = _ := fun i => q1 (w.heap.size + 1) i (by simp)
  have a0 : w1.cell? ⟨w.heap.size, 0, none⟩ = some (.int .i64 3) := (e0 0).trans (by go_simp)
  have a1 : w1.cell? ⟨w.heap.size, 1, none⟩ = some (.int .i64 12) := (e0 1).trans (by go_simp)
  have a2 : w1.cell? ⟨w.heap.size, 2, none⟩ = some (.int .i64 1) := (e0 2).trans (by go_simp)
  have a3 : w1.cell? ⟨w.heap.size, 3, none⟩ = some (.int .i64 7) := (e0 3).trans (by go_simp)
  have b0 : w1.cell? ⟨w.heap.size + 1, 0, none⟩ = some (.int .i64 3) := (e1 0).trans (by go_simp)
  have b1 : w1.cell? ⟨w.heap.size + 1, 1, none⟩ = some (.int .i64 12) := (e1 1).trans (by go_simp)
  have b2 : w1.cell? ⟨w.heap.size + 1, 2, none⟩ = some (.int .i64 1) := (e1 2).trans (by go_simp)
  have b3 : w1.cell? ⟨w.heap.size + 1, 3, none⟩ = some (.int .i64 0) := (e1 3).trans (by go_simp)
  clear q1 e0 e1 hx1
  have HX2 := Lib.hid hx2
  clear hx2
  go_upto_region 6 with (first
    | (go_at_call 94; refine HS.out.mono ?_; rintro e w2 ⟨A, c, rfl, hs, hx3⟩))
  have hx4 := HX2.out.trans hx3
  obtain ⟨b, off, ct, rfl, hb, hct, _, hcc⟩ := SL.at hs (k := 0) (by simp)
  obtain rfl : (⟨0, 1, 0, 2⟩ : Ct) = ct := by simpa using hct
  obtain ⟨q3, _⟩ := hx3.cells
  have lt0 : w.heap.size < (w1.alloc (.cells #[.int .i64 3, .int .i64 12, .int .i64 1, .int .i64 7] 69)).heap.size := by simp; omega
  have lt1 : w.heap.size + 1 < (w1.alloc (.cells #[.int .i64 3, .int .i64 12, .int .i64 1, .int .i64 7] 69)).heap.size := by simp; omega
  have lt2 : w1.heap.size < (w1.alloc (.cells #[.int .i64 3, .int .i64 12, .int .i64 1, .int .i64 7] 69)).heap.size := by simp
  have m0 : w2.cell? ⟨w.heap.size, 0, none⟩ = some (.int .i64 3) := (q3 _ _ lt0).trans ((World.cell?_alloc_lt _ _ _ hd0).trans a0)
  have m1 : w2.cell? ⟨w.heap.size, 1, none⟩ = some (.int .i64 12) := (q3 _ _ lt0).trans ((World.cell?_alloc_lt _ _ _ hd0).trans a1)
  have m2 : w2.cell? ⟨w.heap.size, 2, none⟩ = some (.int .i64 1) := (q3 _ _ lt0).trans ((World.cell?_alloc_lt _ _ _ hd0).trans a2)
  have m3 : w2.cell? ⟨w.heap.size, 3, none⟩ = some (.int .i64 7) := (q3 _ _ lt0).trans ((World.cell?_alloc_lt _ _ _ hd0).trans a3)
  have n0 : w2.cell? ⟨w.heap.size + 1, 0, none⟩ = some (.int .i64 3) := (q3 _ _ lt1).trans ((World.cell?_alloc_lt _ _ _ hd).trans b0)
  have n1 : w2.cell? ⟨w.heap.size + 1, 1, none⟩ = some (.int .i64 12) := (q3 _ _ lt1).trans ((World.cell?_alloc_lt _ _ _ hd).trans b1)
  have n2 : w2.cell? ⟨w.heap.size + 1, 2, none⟩ = some (.int .i64 1) := (q3 _ _ lt1).trans ((World.cell?_alloc_lt _ _ _ hd).trans b2)
  have n3 : w2.cell? ⟨w.heap.size + 1, 3, none⟩ = some (.int .i64 0) := (q3 _ _ lt1).trans ((World.cell?_alloc_lt _ _ _ hd).trans b3)
  have k0 : w2.cell? ⟨w1.heap.size, 0, none⟩ = some (.int .i64 3) := (q3 _ _ lt2).trans (by go_simp)
  have k1 : w2.cell? ⟨w1.heap.size, 1, none⟩ = some (.int .i64 12) := (q3 _ _ lt2).trans (by go_simp)
  have k2 : w2.cell? ⟨w1.heap.size, 2, none⟩ = some (.int .i64 1) := (q3 _ _ lt2).trans (by go_simp)
  have k3 : w2.cell? ⟨w1.heap.size, 3, none⟩ = some (.int .i64 7) := (q3 _ _ lt2).trans (by go_simp)
  have hc0 := hcc 0 (.int .i64 0) rfl
  have hc1 := hcc 1 (.int .i64 1) rfl
  have hc2 := hcc 2 (.int .i64 0) rfl
  have hc3 := hcc 3 (.int .i64 2) rfl
  simp only [Nat.zero_mul, Nat.add_zero] at hc0 hc1 hc2 hc3
  have d1 : w.heap.size < w2.heap.size := Nat.lt_of_lt_of_le lt0 hx3.lt
  have d2 : w.heap.size + 1 < w2.heap.size := Nat.lt_of_lt_of_le lt1 hx3.lt
  have d3 : w1.heap.size < w2.heap.size := Nat.lt_of_lt_of_le lt2 hx3.lt
  have HX4 := Lib.hid hx4
  clear hx4 hx3 q3 lt0 lt1 lt2 hs hcc a0 a1 a2 a3 b0 b1 b2 b3 hct
  go_upto_region 8 with (first
    | (have hg := HX6; clear hg; go_at_call 50; refine (HZ.out _ HX6.out).mono ?_; rintro e w4 ⟨rfl, hx7⟩; have hx8 := HX5.out.trans hx7; obtain ⟨q8, _⟩ := hx8.cells; have r0 := (q8 _ 0 d1).trans m0; have r1 := (q8 _ 1 d1).trans m1; have r2 := (q8 _ 2 d1).trans m2; have r3 := (q8 _ 3 d1).trans m3; have t0 := (q8 _ 0 d3).trans k0; have t1 := (q8 _ 1 d3).trans k1; have t2 := (q8 _ 2 d3).trans k2; have t3 := (q8 _ 3 d3).trans k3; have HX8 := Lib.hid hx8; clear hx7 hx8 q8)
    | (go_at_call 50; refine (HT.out _ HX4.out).mono ?_; rintro e w3 ⟨rfl, hx5⟩; obtain ⟨q5, _⟩ := hx5.cells; have o0 := (q5 _ 0 d2).trans n0; have o1 := (q5 _ 1 d2).trans n1; have o2 := (q5 _ 2 d2).trans n2; have o3 := (q5 _ 3 d2).trans n3; have hx6 := HX4.out.trans hx5; have HX6 := Lib.hid hx6; have HX5 := Lib.hid hx5; clear hx5 hx6 q5))
  have hx9 := HX4.out.trans HX8.out
  have HX9 := Lib.hid hx9
  clear hx9
  have HQ := Lib.hid (fun X (hX : Ext w2 X) => (show X.cell? ⟨b, off, none⟩ = some (.int .i64 0) ∧ X.cell? ⟨b, off + 1, none⟩ = some (.int .i64 1) ∧ X.cell? ⟨b, off + 2, none⟩ = some (.int .i64 0) ∧ X.cell? ⟨b, off + 3, none⟩ = some (.int .i64 2) from by
    obtain ⟨q, _⟩ := hX.cells
    exact ⟨(q _ _ hb).trans hc0, (q _ _ hb).trans hc1, (q _ _ hb).trans hc2, (q _ _ hb).trans hc3⟩))
  clear hc0 hc1 hc2 hc3 o0 o1 o2 o3 r0 r1 r2 r3 t0 t1 t2 t3 m0 m1 m2 m3 n0 n1 n2 n3 k0 k1 k2 k3
  have F2 := Lib.hid (fun X hX => HF.out ⟨#[51, 47, 49, 50, 97]⟩ 7 ex2 (by decide) X hX)
  have F3 := Lib.hid (fun X hX => HF.out ⟨#[48, 51, 47, 49, 50, 97, 47, 55]⟩ 7 ex3 (by decide) X hX)
  have F4 := Lib.hid (fun X hX => HF.out ⟨#[51, 47, 49, 50, 97, 47, 48, 55]⟩ 7 ex4 (by decide) X hX)
  have F5 := Lib.hid (fun X hX => HF.out ⟨#[51, 47, 48, 47, 55]⟩ 7 ex5 (by decide) X hX)
  have F6 := Lib.hid (fun X hX => HF.out ⟨#[50, 53, 54, 47, 49, 50, 47, 55]⟩ 5 ex6 (by decide) X hX)
  have F7 := Lib.hid (fun X hX => HF.out ⟨#[51, 47, 49, 50, 47, 48]⟩ 5 ex7 (by decide) X hX)
  have F8 := Lib.hid (fun X hX => HF.out ⟨#[51, 47, 49, 50, 47, 49, 48, 49]⟩ 5 ex8 (by decide) X hX)
  clear HF
  go_upto_region 9 with (first
    | (have hg := HX13; clear hg; fail)
    | (have hg := HX12; clear hg; go_at_call 95; refine (F5.out _ HX12.out).mono ?_; rintro e w13 ⟨rfl, hx⟩; have hx13 := HX12.out.trans hx; have hy13 := HY12.out.trans hx; have HX13 := Lib.hid hx13; have HY13 := Lib.hid hy13; clear hx hx13 hy13)
    | (have hg := HX11; clear hg; go_at_call 95; refine (F4.out _ HX11.out).mono ?_; rintro e w12 ⟨rfl, hx⟩; have hx12 := HX11.out.trans hx; have hy12 := HY11.out.trans hx; have HX12 := Lib.hid hx12; have HY12 := Lib.hid hy12; clear hx hx12 hy12)
    | (have hg := HX10; clear hg; go_at_call 95; refine (F3.out _ HX10.out).mono ?_; rintro e w11 ⟨rfl, hx⟩; have hx11 := HX10.out.trans hx; have hy11 := HY10.out.trans hx; have HX11 := Lib.hid hx11; have HY11 := Lib.hid hy11; clear hx hx11 hy11)
    | (go_at_call 95; refine (F2.out _ HX9.out).mono ?_; rintro e w10 ⟨rfl, hx⟩; have hx10 := HX9.out.trans hx; have hy10 := HX8.out.trans hx; have HX10 := Lib.hid hx10; have HY10 := Lib.hid hy10; clear hx hx10 hy10))
  go_wp2_with (first
    | (have hg := HX15; clear hg; go_at_call 95; refine (F8.out _ HX15.out).mono ?_; rintro e w16 ⟨rfl, hx⟩; have hx16 := HX15.out.trans hx; obtain ⟨z0, z1, z2, z3⟩ := HQ.out _ (HY15.out.trans hx); have HX16 := Lib.hid hx16; clear hx hx16)
    | (have hg := HX14; clear hg; go_at_call 95; refine (F7.out _ HX14.out).mono ?_; rintro e w15 ⟨rfl, hx⟩; have hx15 := HX14.out.trans hx; have hy15 := HY14.out.trans hx; have HX15 := Lib.hid hx15; have HY15 := Lib.hid hy15; clear hx hx15 hy15)
    | (go_at_call 95; refine (F6.out _ HX13.out).mono ?_; rintro e w14 ⟨rfl, hx⟩; have hx14 := HX13.out.trans hx; have hy14 := HY13.out.trans hx; have HX14 := Lib.hid hx14; have HY14 := Lib.hid hy14; clear hx hx14 hy14))
  go_ret
  exact ⟨rfl, HX16.out⟩
end Go.Proofs.YtdbnddmncbjobaaGreatDoor

/- The law CiteOf, with what the listed variables give. -/
namespace Go.Proofs.YtdbnddmncbjobaaGreatDoor
open Go Go.RowKit

end Go.Proofs.YtdbnddmncbjobaaGreatDoor
