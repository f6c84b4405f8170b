/- The reference's expr walked. -/
import Derived.Test.YtnpenepdechkjaaGreatDoorMk
namespace Go.Proofs.YtnpenepdechkjaaGreatDoor
open Go Go.RowKit

section
variable {α : Type} {W W' X : World} {b : Nat} {A : Option Addr} {N c : Nat} {toks : List Tk} {o : Nat} {q : PR α}
set_option maxHeartbeats 8000000 in
set_option maxRecDepth 100000 in
theorem rexpr_loop {E : Nat → Nat → List Tk → PR Tr} {M : Nat} (hE : RE E M) {x : α} {r : List Tk} (h : SP W b A N c toks o (.ok x r)) (lv n : Nat) (hlv : lv ∈ [1, 2, 4, 5, 6]) (hn : r.length ≤ n) (hM : 9 * n + (8 - lv) < M + 1) :
    Calls Tryz.prog 41 #[.pointer (some ⟨b, 0, none⟩), .int .i64 (lv : Nat)] W (NdPost W b A N c toks o ((exB E (lv + 1) o (.ok x r)).bind fun y r2 => (loopP E lv o r2.length y.2 r2).bind fun t r3 => .ok (y.1, t) r3)) := by
  have HH := Lib.hid h
  have HBL := Lib.hid h.lt
  have hl6 : lv ≤ 6 := (by decide : ∀ i ∈ [1, 2, 4, 5, 6], i ≤ 6) lv hlv
  have hl1 : 1 ≤ lv := (by decide : ∀ i ∈ [1, 2, 4, 5, 6], 1 ≤ i) lv hlv
  have hl3 : lv ≠ 3 := (by decide : ∀ i ∈ [1, 2, 4, 5, 6], i ≠ 3) lv hlv
  have HLV := Lib.hid hlv
  have t3 : ((lv : Int) == 3) = false := by rw [beq_eq_false_iff_ne]; omega
  have t7 : ((lv : Int) == 7) = false := by rw [beq_eq_false_iff_ne]; omega
  have hI6 : (lv : Int) ≤ 6 := by omega
  have HE := Lib.hid (fun (β : Type) (X : World) (q' : PR β) (hq : SP X b A N c toks o q') (hL : LL n q') => (show Calls Tryz.prog 41 #[.pointer (some ⟨b, 0, none⟩), .int .i64 ((lv : Int) + 1)] X (NdPost X b A N c toks o (exB E (lv + 1) o q')) from hE.2 β X b A N c toks o (lv + 1) n q' hq (by omega) (by omega) hL (by omega)))
  obtain ⟨RES, hres⟩ : ∃ R, R = ((exB E (lv + 1) o (.ok x r)).bind fun y r2 => (loopP E lv o r2.length y.2 r2).bind fun t r3 => PR.ok (y.1, t) r3) := ⟨_, rfl⟩
  rw [← hres]
  have HRES := Lib.hid hres
  have hL0 : LL n (PR.ok x r) := fun y r' he => by obtain ⟨_, rfl⟩ := PR.ok_inj he; exact hn
  have HL0 := Lib.hid hL0
  have HL1 := Lib.hid (hL0.ex hE (lv := lv + 1) (by omega) o)
  have HX := Lib.hid ((Ext.refl W).alloc (.cells #[.int .i64 0, .int .i64 0, .string ⟨#[]⟩, .slice none 0 0] 31))
  have hbl := h.lt
  clear h hlv hn hM hres hL0
  go_enter Tryz.func41, Tryz.ntmps41
  go_upto_region 1 with (fail)
  have q4 := NX.new W 0 0 ⟨#[]⟩ (.slice none 0 0)
  have hz0 : W.heap.size + 1 ≤ (W.alloc (.cells #[.int .i64 0, .int .i64 0, .string ⟨#[]⟩, .slice none 0 0] 31)).heap.size := by simp
  generalize W.alloc (.cells #[.int .i64 0, .int .i64 0, .string ⟨#[]⟩, .slice none 0 0] 31) = w1 at *
  have HN1 := Lib.hid q4
  have HP1 := Lib.hid (HH.out.ext HX.out)
  have c3 : w1.cell? ⟨b, 3, none⟩ = some (.int .i64 0) := by
    obtain ⟨_, a, _, hs⟩ := HP1.out
    exact hs.c3
  clear q4
  go_upto_region 11 with (fail)
  go_wp2_with fail
  refine (HE.out α _ _ HP1.out HL0.out).mono ?_
  rintro e w2 ⟨d, t, rfl, hr, hp, hm, hv⟩
  have HV2 := Lib.hid hv
  have hx3 : Ext w2 (w2.alloc (.cells #[.int .i64 d.k, .int .i64 d.n, .string d.s, .slice d.A d.m d.c] 31)) := (Ext.refl _).alloc _
  have hn3 := NX.new w2 d.k d.n d.s (.slice d.A d.m d.c)
  have hz2 := Nat.le_trans hz0 hm.size
  have HR3 := Lib.hid ((hr.mono (Q := fun j => W.heap.size + 1 ≤ j ∧ j ≠ w2.heap.size) (fun j h1 h2 => ⟨by omega, by omega⟩)).ext hx3)
  have HP3 := Lib.hid (hp.ext hx3)
  have HM3 := Lib.hid (((Mv.of_ext (b := b) HX.out).trans hm).trans (Mv.of_ext hx3))
  have HN3 := Lib.hid ((HN1.out.mv hm (by omega)).mv (Mv.of_ext (b := b) hx3) (by omega))
  clear hr hp hm hv c3
  go_upto_region 12 with (fail)
  generalize w2.alloc (.cells #[.int .i64 d.k, .int .i64 d.n, .string d.s, .slice d.A d.m d.c] 31) = w3 at *
  have hg5W : W.heap.size + 1 ≤ w2.heap.size := hz2
  generalize w2.heap.size = g5 at *
  have HNX3 := Lib.hid hn3
  clear hn3 hx3
  obtain ⟨qc, hqc⟩ : ∃ qc : PR α, qc = (exB E (lv + 1) o (.ok x r)).bind fun y r => .ok y.1 r := ⟨_, rfl⟩
  have HPC := Lib.hid (show SP w3 b A N c toks o qc by rw [hqc]; exact HP3.out.map _)
  have HLC := Lib.hid (show LL n qc by
    rw [hqc]; intro y r' he
    obtain ⟨z, r1, h1, h2⟩ := PR.bind_inv he
    obtain ⟨_, rfl⟩ := PR.ok_inj h2
    exact HL1.out z _ h1)
  have HST := Lib.hid (show LoS E lv n o RES t (opV lv qc) (opS lv qc) from by
    cases hc : qc with
    | bad r1 e =>
      refine .inl ⟨rfl, ?_⟩
      rw [HRES.out]
      rw [hc] at hqc
      cases hq : exB E (lv + 1) o (.ok x r) with
      | bad r2 e2 => rw [hq] at hqc; simpa [opS] using hqc
      | ok y r2 => rw [hq] at hqc; cases hqc
    | ok y r1 =>
      refine LoS.start hl1 r1.length (fun y' r' he => by obtain ⟨_, rfl⟩ := PR.ok_inj he; exact Nat.le_refl _) (by rw [← hc]; exact HLC.out) ?_
      rw [HRES.out]
      rw [hc] at hqc
      cases hq : exB E (lv + 1) o (.ok x r) with
      | bad r2 e2 => rw [hq] at hqc; cases hqc
      | ok z r2 =>
        rw [hq] at hqc
        obtain ⟨rfl, rfl⟩ := PR.ok_inj hqc
        rw [PR.bind_ok, PR.bind_ok, HV2.out z.1 z.2 r1 hq])
  clear hqc
  go_wp2_with fail
  refine (roper_any HPC.out lv HLV.out).mono ?_
  rintro e w4 ⟨rfl, hp, hm⟩
  obtain ⟨g4, hg4⟩ : ∃ g, g = W.heap.size := ⟨_, rfl⟩
  have HG4 := Lib.hid hg4
  have HSTT := Lib.hid (show LoRel W b A N c toks o E lv n RES g4 g5 (.string (bs (opV lv qc))) w4 from
    ⟨d, t, opV lv qc, _, opS lv qc, rfl, rfl, HNX3.out.mv hm (by omega), HR3.out.mv hm (fun k hk => by omega), hp, by rw [hg4]; exact HN3.out.mv hm (by omega), HST.out, HM3.out.trans hm⟩)
  obtain ⟨S0, hS0⟩ : ∃ S, S = bs (opV lv qc) := ⟨_, rfl⟩
  rw [← hS0] at HSTT ⊢
  rw [← hg4] at hg5W ⊢
  have hbg : b < g4 := by rw [hg4]; exact HBL.out
  clear hg4 hp hm hS0 HST HPC HLC HNX3 HR3 HP3 HM3 HN3 HV2 HRES HN1 HP1 HX hz0 hz2 hbl HL1 HL0
  go_upto_region 13 with (fail)
  go_loopw [6] (fun s6 X => LoRel W b A N c toks o E lv n RES g4 g5 s6 X) (fun s6 X => loM N b s6 X)
  case atStart => exact HSTT.out
  case round =>
  clear HSTT
  obtain ⟨d, t, op, S, σ, rfl, hS, hnx, hr, hsp, hn4, hlo, hmv⟩ := hrel
  have HS := Lib.hid hS
  have HNX := Lib.hid hnx
  have HR := Lib.hid hr
  have HSP := Lib.hid hsp
  have HN4 := Lib.hid hn4
  have HMV := Lib.hid hmv
  clear hnx hr hsp hn4 hmv
  rcases hlo with ⟨hop, hres⟩ | ⟨hop, x', r', gf, hσ, hhd, hlvo, hgf, hrn, hres⟩
  · have tS : S.toList = [] := by rw [hS, bs_list, hop]
    have tS2 : (S.toList == ([] : List UInt8)) = true := by rw [tS]; rfl
    have tS3 : S.toList.isEmpty = true := by rw [tS]; rfl
    have HC := Lib.hid hres
    clear hres hop hS
    obtain ⟨y0, y1, y2, y3, y4, _, _, _, _⟩ := HNX.out.nb
    obtain ⟨x0, x1, x2, x3, x4, x5, x6, x7, x8⟩ := HN4.out.nb
    go_wp2
    refine bodyPost_ret (v := .agg #[.int .i64 d.k, .int .i64 d.n, .string d.s, .slice d.A d.m d.c]) (by simp [results, Tryz.results41, go_sem, *]) rfl ?_
    rw [HG4.out, ← HC.out]
    refine NdPost.fin HH.out d t (HR.out.mono fun j h1 _ => h1.1) (HSP.out.map _) HMV.out (fun y t' r1 he => ?_)
    obtain ⟨z, r2, _, h2⟩ := PR.bind_inv he
    obtain ⟨h3, _⟩ := PR.ok_inj h2
    injection h3
  · have tS : S.toList ≠ [] := by rw [hS, bs_list]; exact hop
    have tS2 : (S.toList == ([] : List UInt8)) = false := beq_eq_false_iff_ne.2 tS
    have tS3 : S.toList.isEmpty = false := isEmpty_ne2 tS
    have HC := Lib.hid hres
    have HLO := Lib.hid hlvo
    have hmeas : loM N b (.string S) wr = 1 + r'.tail.length := by
      have h9 := HSP.out
      rw [hσ] at h9
      simp only [loM]
      rw [if_neg tS, h9.meas]
    have HME := Lib.hid hmeas
    have HSP1 := Lib.hid (show SP wr b A N c toks o (.ok x' r'.tail) by have := HSP.out; rwa [hσ] at this)
    have HLL := Lib.hid (show LL n (PR.ok x' r'.tail) from fun y r2 he => by obtain ⟨_, rfl⟩ := PR.ok_inj he; simp only [List.length_tail]; omega)
    clear hop hσ hhd hlvo hres hmeas HSP hS
    go_upto_region 14 with (fail)
    have HX5 := Lib.hid (show Ext wr wr.drew from (Ext.refl _).drew)
    have HN5 := Lib.hid (show NX wr.drew g5 d.k d.n d.s (.slice d.A d.m d.c) from HNX.out.mv (Mv.of_ext (b := b) HX5.out) (by omega))
    have HP5 := Lib.hid (HSP1.out.ext HX5.out)
    refine wp_region_E (fun X => NX X g5 d.k d.n d.s (.slice d.A d.m d.c)) (fun _ => True) (fun i => !(i == 3 || i == 7 || i == 8)) (by kernel_rfl) ?_
    refine tkA (i := 0) (d := some 38) (v := ?_) trivial ?_ ?_; rotate_left
    · (intro w9 hT9; clear hT9; go_simp; try with_reducible rfl)
    (try simp only [Act.put, sA, sZ, sS])
    refine tkA (i := 1) (d := some 39) (v := ?_) trivial ?_ ?_; rotate_left
    · (intro w9 hT9; clear hT9; go_simp; try with_reducible rfl)
    (try simp only [Act.put, sA, sZ, sS])
    refine tkA (i := 2) (d := some 40) (v := ?_) trivial ?_ ?_; rotate_left
    · (intro w9 hT9; clear hT9; go_simp; try with_reducible rfl)
    (try simp only [Act.put, sA, sZ, sS])
    refine tkA (i := 4) (d := some 42) (v := ?_) trivial ?_ ?_; rotate_left
    · (intro w9 hT9; clear hT9; go_simp; try with_reducible rfl)
    (try simp only [Act.put, sA, sZ, sS])
    refine tkA (i := 5) (d := some 43) (v := ?_) trivial ?_ ?_; rotate_left
    · (intro w9 hT9; clear hT9; go_simp; try with_reducible rfl)
    (try simp only [Act.put, sA, sZ, sS])
    have hw := IntWalk.i64_in ((lv : Int) + 1) (by omega)
    refine tkA (i := 6) (d := some 44) (v := .int .i64 ((lv : Int) + 1)) trivial ?_ ?_
    · (intro w9 hT9; clear hT9; go_simp; try exact hw)
    clear hw
    (try simp only [Act.put, sA, sZ, sS])
    refine wpE_takeS (i := 3) (d := some 41) (v := .agg #[.int .i64 d.k, .int .i64 d.n, .string d.s, .slice d.A d.m d.c]) rfl rfl (by kernel_rfl) (by kernel_rfl) (by kernel_rfl) (by kernel_rfl) (fun _ _ _ h => h) (by rfl) ?hy41 HN5.out trivial ?go41
    case hy41 =>
      intro w9 hT9
      obtain ⟨_, q0, q1, q2, q3, _, _, _, _⟩ := NX.nb hT9
      go_simp
    (try simp only [Act.put, sA, sZ, sS])
    refine one (i := 7) (fun K hK => ?_)
    simp only [gA, gS, gZ]
    go_simp
    go_at_call 41
    refine (HE.out α _ _ HP5.out HLL.out).mono ?_
    rintro e w6 ⟨db, tb, rfl, hr6, hp6, hm6, hv6⟩
    simp only []
    have hm56 := (Mv.of_ext (b := b) HX5.out).trans hm6
    have HM6 := Lib.hid (HMV.out.trans hm56)
    have HP6 := Lib.hid hp6
    have HV6 := Lib.hid hv6
    have HNX6 := Lib.hid (HNX.out.mv hm56 (by omega))
    have HR6 := Lib.hid (HR.out.mv hm56 (fun k hk e => by have := HG4.out; omega))
    have HN46 := Lib.hid (HN4.out.mv hm56 (by omega))
    have hg5l : g5 < wr.heap.size := lt_of_block HNX.out
    have HRB6 := Lib.hid (hr6.mono (Q := fun j => W.heap.size + 1 ≤ j ∧ j ≠ g5) (fun j h1 _ => by have := HX5.out.lt; have := HG4.out; omega))
    have hg5l6 := Nat.lt_of_lt_of_le hg5l hm56.size
    clear hp6 hv6 hr6 hm6
    refine hK.out _ _ ⟨fun _ => HNX6.out, trivial⟩ (fun _ => ?_)
    clear hK K
    (try simp only [Act.put, sA, sZ, sS])
    refine one (i := 8) (fun K hK => ?_)
    simp only [gA, gS, gZ]
    go_simp
    go_at_call 92
    refine (rjoined_any HP6.out lv op S HS.out d db t tb (fun j => W.heap.size + 1 ≤ j ∧ j ≠ g5) (fun k hk => by have := HG4.out; omega) (fun e => by have := HG4.out; omega) HR6.out HRB6.out (fun e => lv5_op (HLO.out.trans e))).mono ?_
    rintro e w7 ⟨d7, t7, rfl, hr7, hp7, hm7, hv7⟩
    simp only []
    have HM7 := Lib.hid (HM6.out.trans hm7)
    have HP7 := Lib.hid hp7
    have HV7 := Lib.hid hv7
    have HNX7 := Lib.hid (HNX6.out.mv hm7 (by omega))
    have HN47 := Lib.hid (HN46.out.mv hm7 (by omega))
    have HR7 := Lib.hid hr7
    clear hp7 hv7 hr7 hm7 hm56
    refine hK.out _ _ ⟨fun _ => HNX7.out, trivial⟩ (fun _ => ?_)
    clear hK K
    (try simp only [Act.put, sA, sZ, sS])
    obtain ⟨z0, z1, z2, z3, z4, z5, z6, z7, z8⟩ := HNX7.out.nb
    refine one (i := 9) (fun K hK => ?_)
    simp only [gA, gS, gZ]
    go_simp
    refine hK.out _ _ ⟨fun h => (by cases h), trivial⟩ (fun _ => ?_)
    clear hK K
    (try simp only [Act.put, sA, sZ, sS])
    refine wpE_done (by kernel_rfl) ?_ _
    have hx8 : NX (fin4 w7 g5 (.int .i64 d7.k) (.int .i64 d7.n) (.string d7.s) (.slice d7.A d7.m d7.c)) g5 d7.k d7.n d7.s (.slice d7.A d7.m d7.c) := NX.fin HNX7.out
    have hr8 : Rep (fin4 w7 g5 (.int .i64 d7.k) (.int .i64 d7.n) (.string d7.s) (.slice d7.A d7.m d7.c)) (fun j => W.heap.size + 1 ≤ j ∧ j ≠ g5) d7 t7 := HR7.out.keep (by simp [fin4]) (fun k hk _ => fin4_other _ _ _ _ _ _ _ hk.2)
    have hp8 : SP (fin4 w7 g5 (.int .i64 d7.k) (.int .i64 d7.n) (.string d7.s) (.slice d7.A d7.m d7.c)) b A N c toks o ((jnB lv op t tb (exB E (lv + 1) o (.ok x' r'.tail))).bind fun y r => .ok y.1.1 r) := HH.out.keepN (HP7.out.map _) (fun k hk => fin4_other _ _ _ _ _ _ _ (by have := HG4.out; omega))
    have hn8 : NX (fin4 w7 g5 (.int .i64 d7.k) (.int .i64 d7.n) (.string d7.s) (.slice d7.A d7.m d7.c)) g4 0 0 ⟨#[]⟩ (.slice none 0 0) := (fin4_other _ _ _ _ _ _ _ (by omega)).trans HN47.out
    have hm8 : Mv b W (fin4 w7 g5 (.int .i64 d7.k) (.int .i64 d7.n) (.string d7.s) (.slice d7.A d7.m d7.c)) := HM7.out.finG (by have := HG4.out; omega) _ _ _ _
    unfold fin4 at hx8 hr8 hp8 hn8 hm8
    generalize (((w7.setCell ⟨g5, 0, none⟩ (.int .i64 d7.k)).setCell ⟨g5, 1, none⟩ (.int .i64 d7.n)).setCell ⟨g5, 2, none⟩ (.string d7.s)).setCell ⟨g5, 3, none⟩ (.slice d7.A d7.m d7.c) = w8 at *
    have HX8 := Lib.hid hx8
    have HR8 := Lib.hid hr8
    have HP8 := Lib.hid hp8
    have HN8 := Lib.hid hn8
    have HM8 := Lib.hid hm8
    clear hx8 hr8 hp8 hn8 hm8 z0 z1 z2 z3 z4 z5 z6 z7 z8
    by_cases h4 : lv = 4
    · have t4 : ((lv : Int) != 4) = false := by rw [bne_eq_false_iff_eq]; omega
      have HF := Lib.hid (show LoS E lv n o RES t7 [] ((jnB lv op t tb (exB E (lv + 1) o (.ok x' r'.tail))).bind fun y r => .ok y.1.1 r) from by
        have h9 := HC.out
        subst h4
        simp only [if_true] at h9
        exact LoS.next4 h9 HV6.out HV7.out)
      clear h4
      go_wp2
      refine ⟨⟨d7, t7, [], _, _, rfl, rfl, HX8.out, HR8.out, HP8.out, HN8.out, HF.out, HM8.out⟩, ?_⟩
      rw [HME.out]
      simp only [loM]
      rw [if_pos (show (⟨#[]⟩ : ByteArray).toList = [] from bs_list [])]
      omega
    · have t4 : ((lv : Int) != 4) = true := by rw [bne_iff_ne]; omega
      have HF := Lib.hid (LoS.next hl1 h4 hE.1 hgf hrn HC.out HV6.out HV7.out)
      clear h4
      go_wp2_with fail
      refine (roper_any HP8.out lv HLV.out).mono ?_
      rintro e w9 ⟨rfl, hp9, hm9⟩
      have HP9 := Lib.hid hp9
      have HX9 := Lib.hid (HX8.out.mv hm9 (by omega))
      have HR9 := Lib.hid (HR8.out.mv hm9 (fun k hk e => by have := HG4.out; omega))
      have HN9 := Lib.hid (HN8.out.mv hm9 (by omega))
      have HM9 := Lib.hid (HM8.out.trans hm9)
      clear hp9 hm9
      go_wp2_with fail
      refine ⟨⟨d7, t7, _, _, _, rfl, rfl, HX9.out, HR9.out, HP9.out, HN9.out, HF.out.1, HM9.out⟩, ?_⟩
      rw [HME.out]
      simp only [loM]
      split
      · omega
      · rename_i hne
        rw [bs_list] at hne
        have h9 := HF.out.1
        rcases h9 with ⟨h9, _⟩ | ⟨_, y, r9, gf9, h10, h11, _⟩
        · exact absurd h9 hne
        · have h12 := HP9.out
          rw [h10] at h12
          rw [h12.meas]
          have := opV_ne hl1 h10 hne HF.out.2
          omega
end
end Go.Proofs.YtnpenepdechkjaaGreatDoor
