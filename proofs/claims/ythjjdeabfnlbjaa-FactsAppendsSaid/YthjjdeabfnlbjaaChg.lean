/- The contract of facts.Changes. -/
import Derived.Test.YthjjdeabfnlbjaaChgL
import Derived.Test.YthjjdeabfnlbjaaHold
namespace Go.Proofs.Ythjjdeabfnlbjaa
open Go Go.RowKit

theorem step_append_tm {P : Program} {w : World} {o : Oper} {a : Act} {K : Act → World → Prop} {Q : Exit → Act → World → Prop} {E : Prop} {s x : Operand} {t : TypeId} {vs vx : Value} {R : Value → World → Prop} {tm : Nat → Option Bool}
    (hgd : o.guard = none) (ho : o.op = .call { callee := .builtin .append, args := #[s, x], argTypes := #[t, t] }) (hty : o.type = t) (hs : a.eval s = vs) (hx : a.eval x = vx)
    (hr : ∃ v' w', (Builtin.append_ #[t, t] t #[vs, vx]).run P w = .ok v' w' ∧ R v' w')
    (h : ∀ v' w', R v' w' → K (a.put o.dst v') w') : if Region.wanted o tm = true then Oper.wp P o a w K Q else E := by
  have h1 := step_append_ex (ops := #[]) (Q := Q) (E := E) hgd ho hty hs hx hr h
  rw [if_pos (by simp [Region.wanted, hgd])] at h1
  rw [if_pos (by simp [Region.wanted, hgd])]
  exact h1
theorem Ext.trans' {a b c : World} (h : Ext a b) (k : Below a.heap.size b c) : Ext a c := Below.trans h k
theorem ChgSt.drewN {a b : List Fc} {X : Nat} {B1 B2 R1 R2 : Option Addr} {d1 d2 r1 r2 : Nat} {a2 b2 rem add : List Fc} {wr : World} (h : ChgSt a b X B1 B2 R1 R2 d1 d2 r1 r2 a2 b2 rem add wr) (n : Nat) : ChgSt a b X B1 B2 R1 R2 d1 d2 r1 r2 a2 b2 rem add (wr.drewN n) :=
  ⟨h.st, h.la, h.lb, h.sa, h.sb, h.bk, h.oadd, h.orem, h.dis, h.ladd, h.lrem⟩
theorem ChgSt.skip2 {a b : List Fc} {X b1 o1 b2' o2 : Nat} {R1 R2 : Option Addr} {d1 d2 r1 r2 : Nat} {at_ bt rem add : List Fc} {x y : Fc} {wr : World} (h : ChgSt a b X (some ⟨b1, o1, none⟩) (some ⟨b2', o2, none⟩) R1 R2 d1 d2 r1 r2 (x :: at_) (y :: bt) rem add wr) (e : x = y) :
    ChgSt a b X (if d1 = 1 then some ⟨b1, o1, none⟩ else some ⟨b1, o1 + 6, none⟩) (if d2 = 1 then some ⟨b2', o2, none⟩ else some ⟨b2', o2 + 6, none⟩) R1 R2 (d1 - 1) (d2 - 1) r1 r2 at_ bt rem add wr := by
  subst e; exact h.skip
theorem heads_lt {x y : Fc} {l : List Fc} (h : x.en < y.en) (hh : ∀ v ∈ l, y.en < v.en) : ∀ v ∈ y :: l, x.en < v.en := fun v hv => by
  rcases List.mem_cons.1 hv with e | e
  · subst e; exact h
  · have := hh v e; omega
theorem chgM_lt {A B A' B' : Option Addr} {n c m d n' c' m' d' : Nat} (h : n < n') (h' : m ≤ m') : chgM (.slice A n c) (.slice B m d) < chgM (.slice A' n' c') (.slice B' m' d') := by
  rw [chgM_eq, chgM_eq]; omega
theorem chgM_lt2 {A B A' B' : Option Addr} {n c m d n' c' m' d' : Nat} (h : n ≤ n') (h' : m < m') : chgM (.slice A n c) (.slice B m d) < chgM (.slice A' n' c') (.slice B' m' d') := by
  rw [chgM_eq, chgM_eq]; omega

set_option maxRecDepth 100000 in
set_option maxHeartbeats 4000000 in
theorem chg_any (A : Option Addr) (n c : Nat) (l : List Vr) (fr un : Int) (w : World) (hl : n ≤ 1000) (h : SV w w.heap.size A n l) (hen : ∀ k, k < n → 0 ≤ (vat l k).fc.en ∧ (vat l k).fc.en ≤ 5) :
    Calls Try.prog 26 #[.slice A n c, .int .i64 fr, .int .i64 un] w (ChgPost l fr un w) := by
  have HS := Lib.hid h; clear h
  have HEN := Lib.hid hen; clear hen
  go_enter Try.func26, Try.ntmps26
  go_wp2_with fail
  have hx0 : Ext w (w.alloc (.cells #[.slice none 0 0, .slice none 0 0] 44)) := (Ext.refl w).alloc _
  refine (at_any A n c l fr _ hl (SV.lift HS.out (Nat.le_refl _) hx0) HEN.out).mono ?_
  rintro e w1 ⟨a, A1, c1, rfl, hma, h6a, hofa, hx1⟩
  have HMA := Lib.hid hma
  have HOFA := Lib.hid hofa
  have hx1' := hx0.trans hx1
  clear hma hofa
  go_wp2_with fail
  refine (at_any A n c l un _ hl (SV.lift HS.out (Nat.le_refl _) hx1') HEN.out).mono ?_
  rintro e w2 ⟨b, A2, c2, rfl, hmb, h6b, hofb, hx2⟩
  have HMB := Lib.hid hmb
  have HOFB := Lib.hid hofb
  have hx2' := hx1'.trans hx2
  have HT := Lib.hid ((Bk.new w 44 #[.slice none 0 0, .slice none 0 0]).ext (hx1.trans hx2))
  clear hmb hofb hx0 hx1' 
  have HX2 := Lib.hid hx2'
  have hsa0 : SF w2 w2.heap.size A1 a.length a := by
    obtain ⟨A9, c9, e9, _, h9⟩ := (HOFA.out.ext hx2).form
    injection e9 with e1 e2 e3; subst e1; exact h9
  have hsb0 : SF w2 w2.heap.size A2 b.length b := by
    obtain ⟨A9, c9, e9, _, h9⟩ := HOFB.out.form
    injection e9 with e1 e2 e3; subst e1; exact h9
  have hla0 : a.length ≤ c1 := by
    obtain ⟨A9, c9, e9, h9, _⟩ := HOFA.out.form
    injection e9 with e1 e2 e3; omega
  have hlb0 : b.length ≤ c2 := by
    obtain ⟨A9, c9, e9, h9, _⟩ := HOFB.out.form
    injection e9 with e1 e2 e3; omega
  have HS0 := Lib.hid hsa0
  have HS1 := Lib.hid hsb0
  clear hsa0 hsb0 hx1 hx2 hx2'
  go_wp2
  go_loopw [7, 8] (fun s7 s8 wr => ChgRel a b w2 s7 s8 wr) (fun s7 s8 _ => chgM s7 s8)
  case atStart => exact ⟨A1, A2, none, none, c1, c2, 0, 0, a, b, [], [], rfl, rfl, ⟨MSt.start HMA.out.sorted HMB.out.sorted, hla0, hlb0, HS0.out.ext ((Ext.refl w2).alloc _) (Nat.le_refl _), HS1.out.ext ((Ext.refl w2).alloc _) (Nat.le_refl _), Bk.new w2 44 _, OF.nil _ _, OF.nil _ _, fun k hk => by simp [Value.ownBlock] at hk, by simp, by simp⟩, (Ext.refl w2).alloc _⟩
  case round =>
    obtain ⟨B1, B2, R1, R2, d1, d2, r1, r2, a2, b2, rem, add, rfl, rfl, hst, hx⟩ := hrel
    have HST := Lib.hid hst
    have HX := Lib.hid hx
    obtain ⟨q1, p1, q1a, q1b, p1b, p1a⟩ := hst.bk.cells2
    have hlens := hst.st.lens
    cases a2 with
    | nil =>
      cases b2 with
      | nil =>
        have hdone := hst.st.done
        have HD := Lib.hid hdone
        have hbt : Bk wr w.heap.size 44 #[.slice none 0 0, .slice none 0 0] := HT.out.ext hx
        obtain ⟨q2, p2⟩ := hbt.cells
        clear hdone hst hx hbt
        simp only [List.length_nil]
        have hlt : w.heap.size < w2.heap.size := HT.out.lt
        go_wp2
        refine bodyPost_ret (v := .agg #[.slice R1 add.length r1, .slice R2 rem.length r2]) (by simp [results, Try.results26, go_sem, q2]) rfl ?_
        have hs := HST.out
        have o1 := (OF.far (OF.far hs.oadd (p := ⟨w.heap.size, 0, none⟩) (by show w.heap.size < _; omega) (.slice R1 add.length r1)) (p := ⟨w.heap.size, 1, none⟩) (by show w.heap.size < _; omega) (.slice R2 rem.length r2)).sf
        have o2 := (OF.far (OF.far hs.orem (p := ⟨w.heap.size, 0, none⟩) (by show w.heap.size < _; omega) (.slice R1 add.length r1)) (p := ⟨w.heap.size, 1, none⟩) (by show w.heap.size < _; omega) (.slice R2 rem.length r2)).sf
        have hxx : Ext w ((wr.setCell ⟨w.heap.size, 0, none⟩ (.slice R1 add.length r1)).setCell ⟨w.heap.size, 1, none⟩ (.slice R2 rem.length r2)) := ((HX2.out.trans HX.out).setCell (Nat.le_refl _) _).setCell (Nat.le_refl _) _
        obtain ⟨e1, e2⟩ := HD.out
        subst e1; subst e2
        exact ⟨a, b, R1, R2, r1, r2, rfl, HMA.out, HMB.out, h6a, h6b, o1, o2, hxx⟩
      | cons y bt =>
        obtain ⟨b2', off2, rfl, hb2, f0, f1, f2, f3, f4, f5⟩ := hst.sb.at_ (k := 0) (by simp)
        simp only [Nat.zero_mul, Nat.add_zero, show fat (y :: bt) 0 = y from rfl] at f0 f1 f2 f3 f4 f5
        have hlb := hst.lb
        simp only [List.length_cons] at hlb
        have hbY : b2' < wr.heap.size := by have := hx.lt; omega
        have j1 : decide (0 < bt.length + 1) = true := by simp
        have j2 : decide ((0 : Int) < (bt.length : Int) + 1) = true := by rw [decide_eq_true_eq]; omega
        have j3 : (0 : Int) < (bt.length : Int) + 1 := by omega
        have j4 : (1 : Int) ≤ (bt.length : Int) + 1 := by omega
        have j5 : ((bt.length : Int) + 1 == 0) = false := by simp; omega
        have hXX : w2.heap.size < wr.heap.size := hst.bk.lt
        simp only [List.length_cons, List.length_nil] at hlens
        simp only [List.length_cons, List.length_nil]
        clear hst hx
        go_wp2
        go_quiet (fail)
        go_wp2_with fail
        go_quiet (fail)
        go_wp2_with fail
        go_region_law (first
          | (refine step_append_ex (s := .tmp 97) (x := .tmp 101) rfl rfl rfl rfl rfl (app_row HST.out.oadd HST.out.orem HST.out.dis.symm HST.out.bk (by omega) y _ ((Ext.drewN (Ext.refl wr) _).alloc _) ⟨_, SF.one (wr.drewN (nq + 1)) y 30⟩ (by show _ < (World.alloc (wr.drewN (nq + 1)) _).heap.size; simp)) ?_; rintro v' w3 ⟨A3, c3, rfl, hr3, ho3, hd3, hb3, hx3⟩
             obtain ⟨q3, p3, q3a, q3b, p3b, p3a⟩ := hb3.cells2
             have HB3 := Lib.hid hb3
             have HX3 := Lib.hid hx3
             have HR3 := Lib.hid hr3
             have HO3 := Lib.hid ho3
             clear hb3 hx3 hr3 ho3)
          | fail)
        all_goals
          have hs := HST.out.right (fun _ h => by simp at h) HR3.out HO3.out hd3 HB3.out HX3.out
          have hx9 : Ext w2 (w3.setCell ⟨w2.heap.size, 0, none⟩ (.slice A3 (add.length + 1) c3)) := chg_ext HX.out HX3.out hXX 0 _
          have HS4 := Lib.hid hs
          have HX4 := Lib.hid hx9
          clear hs hx9 hd3 q1 p1 q1a q1b p1b p1a q3 p3 q3a q3b p3b p3a f0 f1 f2 f3 f4 f5
          simp only [Exit.inBlock]; rename_i QQ nq8; unfold QQ; simp only [Exit.then]; refine ⟨?_, ?lt⟩; (repeat apply Exists.intro); refine ⟨?rel, rfl⟩
          case rel => exact ⟨_, _, _, _, _, _, _, _, [], bt, rem, add ++ [y], rfl, rfl, HS4.out, HX4.out⟩
          case lt => exact chgM_lt2 (Nat.le_refl _) (Nat.lt_succ_self _)
    | cons x at_ =>
      cases b2 with
      | nil =>
        obtain ⟨b1, off, rfl, hb1, e0, e1, e2, e3, e4, e5⟩ := hst.sa.at_ (k := 0) (by simp)
        simp only [Nat.zero_mul, Nat.add_zero, show fat (x :: at_) 0 = x from rfl] at e0 e1 e2 e3 e4 e5
        have hla := hst.la
        simp only [List.length_cons] at hla
        have hbX : b1 < wr.heap.size := by have := hx.lt; omega
        have k1 : decide (0 < at_.length + 1) = true := by simp
        have k2 : decide ((0 : Int) < (at_.length : Int) + 1) = true := by rw [decide_eq_true_eq]; omega
        have k3 : (0 : Int) < (at_.length : Int) + 1 := by omega
        have k4 : (1 : Int) ≤ (at_.length : Int) + 1 := by omega
        have k5 : ((at_.length : Int) + 1 == 0) = false := by simp; omega
        have hXX : w2.heap.size < wr.heap.size := hst.bk.lt
        simp only [List.length_cons, List.length_nil] at hlens
        simp only [List.length_cons, List.length_nil]
        clear hst hx
        go_wp2
        go_quiet (fail)
        go_wp2_with fail
        go_region_law (first
          | (refine step_append_ex (s := .tmp 72) (x := .tmp 76) rfl rfl rfl rfl rfl (app_row HST.out.orem HST.out.oadd HST.out.dis HST.out.bk (by omega) x _ ((Ext.drewN (Ext.refl wr) _).alloc _) ⟨_, SF.one (wr.drewN (nq + 1)) x 30⟩ (by show _ < (World.alloc (wr.drewN (nq + 1)) _).heap.size; simp)) ?_; rintro v' w3 ⟨A3, c3, rfl, hr3, ho3, hd3, hb3, hx3⟩
             obtain ⟨q3, p3, q3a, q3b, p3b, p3a⟩ := hb3.cells2
             have HB3 := Lib.hid hb3
             have HX3 := Lib.hid hx3
             have HR3 := Lib.hid hr3
             have HO3 := Lib.hid ho3
             clear hb3 hx3 hr3 ho3)
          | fail)
        all_goals
          have hs := HST.out.left (fun _ h => by simp at h) HR3.out HO3.out hd3 HB3.out HX3.out
          have hx9 : Ext w2 (w3.setCell ⟨w2.heap.size, 1, none⟩ (.slice A3 (rem.length + 1) c3)) := chg_ext HX.out HX3.out hXX 1 _
          have HS4 := Lib.hid hs
          have HX4 := Lib.hid hx9
          clear hs hx9 hd3 q1 p1 q1a q1b p1b p1a q3 p3 q3a q3b p3b p3a e0 e1 e2 e3 e4 e5
          simp only [Exit.inBlock]; rename_i QQ; unfold QQ; simp only [Exit.then]; refine ⟨?_, ?lt⟩; (repeat apply Exists.intro); refine ⟨?rel, rfl⟩
          case rel => exact ⟨_, _, _, _, _, _, _, _, at_, [], rem ++ [x], add, rfl, rfl, HS4.out, HX4.out⟩
          case lt => exact chgM_lt (Nat.lt_succ_self _) (Nat.le_refl _)
      | cons y bt =>
        obtain ⟨b1, off, rfl, hb1, e0, e1, e2, e3, e4, e5⟩ := hst.sa.at_ (k := 0) (by simp)
        simp only [Nat.zero_mul, Nat.add_zero, show fat (x :: at_) 0 = x from rfl] at e0 e1 e2 e3 e4 e5
        have hla := hst.la
        simp only [List.length_cons] at hla
        have hbX : b1 < wr.heap.size := by have := hx.lt; omega
        have k1 : decide (0 < at_.length + 1) = true := by simp
        have k2 : decide ((0 : Int) < (at_.length : Int) + 1) = true := by rw [decide_eq_true_eq]; omega
        have k3 : (0 : Int) < (at_.length : Int) + 1 := by omega
        have k4 : (1 : Int) ≤ (at_.length : Int) + 1 := by omega
        have k5 : ((at_.length : Int) + 1 == 0) = false := by simp; omega
        obtain ⟨b2', off2, rfl, hb2, f0, f1, f2, f3, f4, f5⟩ := hst.sb.at_ (k := 0) (by simp)
        simp only [Nat.zero_mul, Nat.add_zero, show fat (y :: bt) 0 = y from rfl] at f0 f1 f2 f3 f4 f5
        have hlb := hst.lb
        simp only [List.length_cons] at hlb
        have hbY : b2' < wr.heap.size := by have := hx.lt; omega
        have j1 : decide (0 < bt.length + 1) = true := by simp
        have j2 : decide ((0 : Int) < (bt.length : Int) + 1) = true := by rw [decide_eq_true_eq]; omega
        have j3 : (0 : Int) < (bt.length : Int) + 1 := by omega
        have j4 : (1 : Int) ≤ (bt.length : Int) + 1 := by omega
        have j5 : ((bt.length : Int) + 1 == 0) = false := by simp; omega
        have hheads := hst.st.heads
        have HH := Lib.hid hheads
        clear hheads
        have hXX : w2.heap.size < wr.heap.size := hst.bk.lt
        simp only [List.length_cons] at hlens
        simp only [List.length_cons]
        clear hst hx
        by_cases hlt : x.en < y.en
        · have m1 : decide (x.en < y.en) = true := decide_eq_true hlt
          have HLT := Lib.hid hlt
          clear hlt
          go_wp2
          go_quiet (fail)
          go_wp2_with fail
          go_region_law (first
            | (refine step_append_ex (s := .tmp 72) (x := .tmp 76) rfl rfl rfl rfl rfl (app_row HST.out.orem HST.out.oadd HST.out.dis HST.out.bk (by omega) x _ ((Ext.drewN (Ext.refl wr) _).alloc _) ⟨_, SF.one (wr.drewN (nq + 1)) x 30⟩ (by show _ < (World.alloc (wr.drewN (nq + 1)) _).heap.size; simp)) ?_; rintro v' w3 ⟨A3, c3, rfl, hr3, ho3, hd3, hb3, hx3⟩
               obtain ⟨q3, p3, q3a, q3b, p3b, p3a⟩ := hb3.cells2
               have HB3 := Lib.hid hb3
               have HX3 := Lib.hid hx3
               have HR3 := Lib.hid hr3
               have HO3 := Lib.hid ho3
               clear hb3 hx3 hr3 ho3)
            | fail)
          all_goals
            have hs := HST.out.left (heads_lt HLT.out HH.out.2) HR3.out HO3.out hd3 HB3.out HX3.out
            have hx9 : Ext w2 (w3.setCell ⟨w2.heap.size, 1, none⟩ (.slice A3 (rem.length + 1) c3)) := chg_ext HX.out HX3.out hXX 1 _
            have HS4 := Lib.hid hs
            have HX4 := Lib.hid hx9
            clear hs hx9 hd3 q1 p1 q1a q1b p1b p1a q3 p3 q3a q3b p3b p3a e0 e1 e2 e3 e4 e5 f0 f1 f2 f3 f4 f5
            simp only [Exit.inBlock]; rename_i QQ; unfold QQ; simp only [Exit.then]; refine ⟨?_, ?lt⟩; (repeat apply Exists.intro); refine ⟨?rel, rfl⟩
            case rel => exact ⟨_, _, _, _, _, _, _, _, at_, y :: bt, rem ++ [x], add, rfl, rfl, HS4.out, HX4.out⟩
            case lt => exact chgM_lt (Nat.lt_succ_self _) (Nat.le_refl _)
        · have m1 : decide (x.en < y.en) = false := decide_eq_false hlt
          by_cases hgt : y.en < x.en
          · have m2 : decide (y.en < x.en) = true := decide_eq_true hgt
            have HLT := Lib.hid hgt
            clear hlt hgt
            go_wp2
            go_quiet (fail)
            go_wp2_with fail
            go_quiet (fail)
            go_wp2_with fail
            go_region_law (first
              | (refine step_append_ex (s := .tmp 97) (x := .tmp 101) rfl rfl rfl rfl rfl (app_row HST.out.oadd HST.out.orem HST.out.dis.symm HST.out.bk (by omega) y _ ((Ext.drewN (Ext.refl wr) _).alloc _) ⟨_, SF.one (wr.drewN (nq + 1)) y 30⟩ (by show _ < (World.alloc (wr.drewN (nq + 1)) _).heap.size; simp)) ?_; rintro v' w3 ⟨A3, c3, rfl, hr3, ho3, hd3, hb3, hx3⟩
                 obtain ⟨q3, p3, q3a, q3b, p3b, p3a⟩ := hb3.cells2
                 have HB3 := Lib.hid hb3
                 have HX3 := Lib.hid hx3
                 have HR3 := Lib.hid hr3
                 have HO3 := Lib.hid ho3
                 clear hb3 hx3 hr3 ho3)
              | fail)
            all_goals
              have hs := HST.out.right (heads_lt HLT.out HH.out.1) HR3.out HO3.out hd3 HB3.out HX3.out
              have hx9 : Ext w2 (w3.setCell ⟨w2.heap.size, 0, none⟩ (.slice A3 (add.length + 1) c3)) := chg_ext HX.out HX3.out hXX 0 _
              have HS4 := Lib.hid hs
              have HX4 := Lib.hid hx9
              clear hs hx9 hd3 q1 p1 q1a q1b p1b p1a q3 p3 q3a q3b p3b p3a e0 e1 e2 e3 e4 e5 f0 f1 f2 f3 f4 f5
              simp only [Exit.inBlock]; rename_i QQ nq8; unfold QQ; simp only [Exit.then]; refine ⟨?_, ?lt⟩; (repeat apply Exists.intro); refine ⟨?rel, rfl⟩
              case rel => exact ⟨_, _, _, _, _, _, _, _, x :: at_, bt, rem, add ++ [y], rfl, rfl, HS4.out, HX4.out⟩
              case lt => exact chgM_lt2 (Nat.le_refl _) (Nat.lt_succ_self _)
          · have m2 : decide (y.en < x.en) = false := decide_eq_false hgt
            have HEQ := Lib.hid (show x.en = y.en by omega)
            clear hlt hgt
            have hcmp := fun W => eqF x y W
            cases hd : decide (x = y)
            · rw [hd] at hcmp
              have HXY := Lib.hid (of_decide_eq_false hd)
              clear hd
              go_wp2
              go_quiet (fail)
              go_wp2_with fail
              go_quiet (fail)
              go_wp2_with fail
              go_quiet (fail)
              go_wp2_with fail
              clear hcmp q1 p1 q1a q1b p1b p1a e0 e1 e2 e3 e4 e5 f0 f1 f2 f3 f4 f5 k1 k2 k3 k4 k5 j1 j2 j3 j4 j5 m1 m2 hXX hbX hbY
              rename_i QQ nq1 nq2 Kx hKx
              obtain ⟨w5, hw5, hst5, hx5⟩ : ∃ w5, ((wr.drewN nq1).drewN nq2).drewN nq = w5 ∧ ChgSt a b w2.heap.size (some ⟨b1, off, none⟩) (some ⟨b2', off2, none⟩) R1 R2 d1 d2 r1 r2 (x :: at_) (y :: bt) rem add w5 ∧ Ext w2 w5 := ⟨_, rfl, ((HST.out.drewN _).drewN _).drewN _, ((HX.out.drewN _).drewN _).drewN _⟩
              rw [hw5]
              clear hw5
              have HST5 := Lib.hid hst5
              have HX5 := Lib.hid hx5
              obtain ⟨q1, p1, q1a, q1b, p1b, p1a⟩ := hst5.bk.cells2
              have hb1' : b1 < w5.heap.size := by have := hx5.lt; omega
              have hb2' : b2' < w5.heap.size := by have := hx5.lt; omega
              obtain ⟨_, _, ee, _, e0, e1, e2, e3, e4, e5⟩ := hst5.sa.at_ (k := 0) (by simp)
              injection ee with ee; injection ee with ee1 ee2
              subst ee1; subst ee2
              obtain ⟨_, _, ee, _, f0, f1, f2, f3, f4, f5⟩ := hst5.sb.at_ (k := 0) (by simp)
              injection ee with ee; injection ee with ee1 ee2
              subst ee1; subst ee2
              simp only [Nat.zero_mul, Nat.add_zero, show fat (x :: at_) 0 = x from rfl] at e0 e1 e2 e3 e4 e5
              simp only [Nat.zero_mul, Nat.add_zero, show fat (y :: bt) 0 = y from rfl] at f0 f1 f2 f3 f4 f5
              clear hst5 hx5
              have hgen : ∀ (W : World) (o : Obj) (p : Addr), p.block < W.heap.size → (W.alloc o).cell? p = W.cell? p := fun W o p h => World.cell?_alloc_lt _ _ _ h
              have hX5 := HST5.out.bk.lt
              have hX5' := Nat.le_of_lt hX5
              have hb1'' := Nat.le_of_lt hb1'
              have hb2'' := Nat.le_of_lt hb2'
              have k3 : (0 : Int) < (at_.length : Int) + 1 := by omega
              have j3 : (0 : Int) < (bt.length : Int) + 1 := by omega
              have hXb1 : b1 < w2.heap.size := hb1
              have hXb2 : b2' < w2.heap.size := hb2
              refine wp_region_E (fun w' => Bk w' w2.heap.size 44 #[.slice R1 add.length r1, .slice R2 rem.length r2]) (fun w' => Below w2.heap.size w5 w') (fun j => !(j == 1 || j == 5 || j == 6 || j == 8 || j == 12 || j == 13)) (by kernel_rfl) ?_
              have hS0 : Bk w5.drew w2.heap.size 44 #[.slice R1 add.length r1, .slice R2 rem.length r2] := HST5.out.bk.drew
              have hT0 : Below w2.heap.size w5 w5.drew := Below.drew (Below.refl _ _)
              refine wpE_takeT (i := 0) (d := some 31) (v := .pointer (some ⟨w2.heap.size, 1, none⟩)) rfl rfl (by kernel_rfl) (by kernel_rfl) (by kernel_rfl) rfl (fun _ _ _ h => h) (by rfl) ?hy1 hT0 ?go1
              case hy1 =>
                intro w9 hT9
                clear hT9 e0 e1 e2 e3 e4 e5 f0 f1 f2 f3 f4 f5
                go_simp
              (try simp only [Act.put, List.setIfInBounds_toArray, List.set_cons_zero, List.set_cons_succ])
              refine wpE_takeT (i := 2) (d := some 33) (v := .slice (some ⟨b1, off, none⟩) (at_.length + 1) d1) rfl rfl (by kernel_rfl) (by kernel_rfl) (by kernel_rfl) rfl (fun _ _ _ h => h) (by rfl) ?hy2 hT0 ?go2
              case hy2 =>
                intro w9 hT9
                clear hT9 e0 e1 e2 e3 e4 e5 f0 f1 f2 f3 f4 f5
                go_simp
              (try simp only [Act.put, List.setIfInBounds_toArray, List.set_cons_zero, List.set_cons_succ])
              refine wpE_takeT (i := 3) (d := some 34) (v := .pointer (some ⟨b1, off, none⟩)) rfl rfl (by kernel_rfl) (by kernel_rfl) (by kernel_rfl) rfl (fun _ _ _ h => h) (by rfl) ?hy3 hT0 ?go3
              case hy3 =>
                intro w9 hT9
                clear hT9 e0 e1 e2 e3 e4 e5 f0 f1 f2 f3 f4 f5
                go_simp
              (try simp only [Act.put, List.setIfInBounds_toArray, List.set_cons_zero, List.set_cons_succ])
              refine wpE_takeT (i := 4) (d := some 35) (v := .agg #[.int .i64 x.en, .string x.kd, .int .i64 x.day, .int .i64 x.byy, .int .i64 x.too, .int .i64 x.am]) rfl rfl (by kernel_rfl) (by kernel_rfl) (by kernel_rfl) rfl (fun _ _ _ h => h) (by rfl) ?hy4 hT0 ?go4
              case hy4 =>
                intro w9 hT9
                have g0 := (hT9.cell (p := ⟨b1, off, none⟩) hXb1).trans e0; have g1 := (hT9.cell (p := ⟨b1, off + 1, none⟩) hXb1).trans e1; have g2 := (hT9.cell (p := ⟨b1, off + 2, none⟩) hXb1).trans e2; have g3 := (hT9.cell (p := ⟨b1, off + 3, none⟩) hXb1).trans e3; have g4 := (hT9.cell (p := ⟨b1, off + 4, none⟩) hXb1).trans e4; have g5 := (hT9.cell (p := ⟨b1, off + 5, none⟩) hXb1).trans e5
                clear hT9 e0 e1 e2 e3 e4 e5 f0 f1 f2 f3 f4 f5
                go_simp
              (try simp only [Act.put, List.setIfInBounds_toArray, List.set_cons_zero, List.set_cons_succ])
              refine wpE_takeT (i := 7) (d := some 38) (v := .pointer (some ⟨w2.heap.size, 0, none⟩)) rfl rfl (by kernel_rfl) (by kernel_rfl) (by kernel_rfl) rfl (fun _ _ _ h => h) (by rfl) ?hy5 hT0 ?go5
              case hy5 =>
                intro w9 hT9
                clear hT9 e0 e1 e2 e3 e4 e5 f0 f1 f2 f3 f4 f5
                go_simp
              (try simp only [Act.put, List.setIfInBounds_toArray, List.set_cons_zero, List.set_cons_succ])
              refine wpE_takeT (i := 9) (d := some 40) (v := .slice (some ⟨b2', off2, none⟩) (bt.length + 1) d2) rfl rfl (by kernel_rfl) (by kernel_rfl) (by kernel_rfl) rfl (fun _ _ _ h => h) (by rfl) ?hy6 hT0 ?go6
              case hy6 =>
                intro w9 hT9
                clear hT9 e0 e1 e2 e3 e4 e5 f0 f1 f2 f3 f4 f5
                go_simp
              (try simp only [Act.put, List.setIfInBounds_toArray, List.set_cons_zero, List.set_cons_succ])
              refine wpE_takeT (i := 10) (d := some 41) (v := .pointer (some ⟨b2', off2, none⟩)) rfl rfl (by kernel_rfl) (by kernel_rfl) (by kernel_rfl) rfl (fun _ _ _ h => h) (by rfl) ?hy7 hT0 ?go7
              case hy7 =>
                intro w9 hT9
                clear hT9 e0 e1 e2 e3 e4 e5 f0 f1 f2 f3 f4 f5
                go_simp
              (try simp only [Act.put, List.setIfInBounds_toArray, List.set_cons_zero, List.set_cons_succ])
              refine wpE_takeT (i := 11) (d := some 42) (v := .agg #[.int .i64 y.en, .string y.kd, .int .i64 y.day, .int .i64 y.byy, .int .i64 y.too, .int .i64 y.am]) rfl rfl (by kernel_rfl) (by kernel_rfl) (by kernel_rfl) rfl (fun _ _ _ h => h) (by rfl) ?hy8 hT0 ?go8
              case hy8 =>
                intro w9 hT9
                have g0 := (hT9.cell (p := ⟨b2', off2, none⟩) hXb2).trans f0; have g1 := (hT9.cell (p := ⟨b2', off2 + 1, none⟩) hXb2).trans f1; have g2 := (hT9.cell (p := ⟨b2', off2 + 2, none⟩) hXb2).trans f2; have g3 := (hT9.cell (p := ⟨b2', off2 + 3, none⟩) hXb2).trans f3; have g4 := (hT9.cell (p := ⟨b2', off2 + 4, none⟩) hXb2).trans f4; have g5 := (hT9.cell (p := ⟨b2', off2 + 5, none⟩) hXb2).trans f5
                clear hT9 e0 e1 e2 e3 e4 e5 f0 f1 f2 f3 f4 f5
                go_simp
              (try simp only [Act.put, List.setIfInBounds_toArray, List.set_cons_zero, List.set_cons_succ])
              refine wpE_takeS (i := 1) (d := some 32) (v := .slice R2 rem.length r2) rfl rfl (by kernel_rfl) (by kernel_rfl) (by kernel_rfl) (by kernel_rfl) (fun _ _ _ h => h) (by rfl) ?hy9 hS0 hT0 ?go9
              case hy9 =>
                intro w9 hS9
                obtain ⟨g0, g1⟩ := hS9.cells
                clear hS9 e0 e1 e2 e3 e4 e5 f0 f1 f2 f3 f4 f5
                go_simp
              (try simp only [Act.put, List.setIfInBounds_toArray, List.set_cons_zero, List.set_cons_succ])
              refine wpE_takeS (i := 8) (d := some 39) (v := .slice R1 add.length r1) rfl rfl (by kernel_rfl) (by kernel_rfl) (by kernel_rfl) (by kernel_rfl) (fun _ _ _ h => h) (by rfl) ?hy10 hS0 hT0 ?go10
              case hy10 =>
                intro w9 hS9
                obtain ⟨g0, g1⟩ := hS9.cells
                clear hS9 e0 e1 e2 e3 e4 e5 f0 f1 f2 f3 f4 f5
                go_simp
              (try simp only [Act.put, List.setIfInBounds_toArray, List.set_cons_zero, List.set_cons_succ])
              clear e0 e1 e2 e3 e4 e5 f0 f1 f2 f3 f4 f5 q1 p1 q1a q1b p1b p1a hgen
              refine wpE_all (rs := [5, 12]) (by kernel_rfl) (by simp) ?_
              refine AllE.cons rfl (fun K hK => ?_) ?_
              · simp only [List.getElem_toArray, List.getElem_cons_succ, List.getElem_cons_zero]
                go_simp
                refine hK.out _ _ ⟨fun _ => hS0.alloc _, Below.alloc hT0 (Nat.le_of_lt hX5) _⟩ (fun _ => ?_)
                clear hK K
                (try simp only [Act.put, List.setIfInBounds_toArray, List.set_cons_zero, List.set_cons_succ])
                refine wpE_all (rs := [6, 12]) (by kernel_rfl) (by simp) ?_
                refine AllE.cons rfl (fun K hK => ?_) ?_
                · simp only [List.getElem_toArray, List.getElem_cons_succ, List.getElem_cons_zero]
                  have hap := app_gen HST5.out.orem HST5.out.oadd HST5.out.dis HST5.out.bk (by omega) x (w5.drew.alloc (.cells #[.int .i64 x.en, .string x.kd, .int .i64 x.day, .int .i64 x.byy, .int .i64 x.too, .int .i64 x.am] 30)) (some ⟨w5.heap.size, 0, none⟩) ((Ext.refl w5).drew.alloc _) ⟨_, SF.one w5.drew x 30⟩
                  refine step_append_tm (s := .tmp 32) (x := .tmp 36) rfl rfl rfl rfl rfl hap ?_
                  clear hap
                  rintro v' w3 ⟨A3, c3, rfl, hr3, ho3, hd3, hb3, hx3, hn3⟩
                  have HBR := Lib.hid hb3; have HX3 := Lib.hid hx3; have HR := Lib.hid hr3; have HOR := Lib.hid ho3; have HDR := Lib.hid hd3
                  have HBL3 := Lib.hid (Below.mono hx3 (Nat.le_succ _))
                  clear hb3 hx3 hr3 ho3 hd3 hn3
                  refine hK.out _ _ ⟨fun _ => HBR.out, HBL3.out⟩ (fun _ => ?_)
                  clear hK K
                  (try simp only [Act.put, List.setIfInBounds_toArray, List.set_cons_zero, List.set_cons_succ])
                  refine wpE_takeT (i := 14) (d := some 45) (v := .pointer (some ⟨w2.heap.size, 1, none⟩)) rfl rfl (by kernel_rfl) (by kernel_rfl) (by kernel_rfl) rfl (fun _ _ _ h => h) (by rfl) ?hy11 HBL3.out ?go11
                  case hy11 =>
                    intro w9 hT9
                    clear hT9
                    go_simp
                  (try simp only [Act.put, List.setIfInBounds_toArray, List.set_cons_zero, List.set_cons_succ])
                  refine wpE_all (rs := [12]) (by kernel_rfl) (by simp) ?_
                  refine AllE.cons rfl (fun K hK => ?_) AllE.nil
                  simp only [List.getElem_toArray, List.getElem_cons_succ, List.getElem_cons_zero]
                  go_simp
                  refine hK.out _ _ ⟨fun _ => HBR.out.alloc _, Below.alloc HBL3.out (Nat.le_trans (Nat.le_of_lt hX5) HX3.out.size) _⟩ (fun _ => ?_)
                  clear hK K
                  (try simp only [Act.put, List.setIfInBounds_toArray, List.set_cons_zero, List.set_cons_succ])
                  refine wpE_all (rs := [13]) (by kernel_rfl) (by simp) ?_
                  refine AllE.cons rfl (fun K hK => ?_) AllE.nil
                  simp only [List.getElem_toArray, List.getElem_cons_succ, List.getElem_cons_zero]
                  skip
                  have hap := app_gen HOR.out HR.out HDR.out.symm HBR.out (by omega) y (w3.alloc (.cells #[.int .i64 y.en, .string y.kd, .int .i64 y.day, .int .i64 y.byy, .int .i64 y.too, .int .i64 y.am] 30)) (some ⟨w3.heap.size, 0, none⟩) ((Ext.refl w3).alloc _) ⟨_, SF.one w3 y 30⟩
                  refine step_append_tm (s := .tmp 39) (x := .tmp 43) rfl rfl rfl rfl rfl hap ?_
                  clear hap
                  rintro v' w4 ⟨A4, c4, rfl, hr4, ho4, hd4, hb4, hx4, hn4⟩
                  have HB4 := Lib.hid hb4; have HX4 := Lib.hid hx4; have HR4 := Lib.hid hr4; have HO4 := Lib.hid ho4; have HD4 := Lib.hid hd4
                  have HBL4 := Lib.hid (Below.trans HBL3.out (Below.mono hx4 (Nat.le_succ _)))
                  obtain ⟨q4, p4⟩ := hb4.cells
                  clear hb4 hx4 hr4 ho4 hd4 hn4
                  refine hK.out _ _ ⟨fun _ => HB4.out, HBL4.out⟩ (fun _ => ?_)
                  clear hK K
                  (try simp only [Act.put, List.setIfInBounds_toArray, List.set_cons_zero, List.set_cons_succ])
                  refine wpE_all (rs := [15]) (by kernel_rfl) (by simp) ?_
                  refine AllE.cons rfl (fun K hK => ?_) AllE.nil
                  simp only [List.getElem_toArray, List.getElem_cons_succ, List.getElem_cons_zero]
                  go_simp
                  refine hK.out _ _ ⟨fun h => absurd h (by simp), Below.setCell HBL4.out (Nat.le_refl _) _⟩ (fun _ => ?_)
                  clear hK K
                  (try simp only [Act.put, List.setIfInBounds_toArray, List.set_cons_zero, List.set_cons_succ])
                  refine wpE_all (rs := [16]) (by kernel_rfl) (by simp) ?_
                  refine AllE.cons rfl (fun K hK => ?_) AllE.nil
                  simp only [List.getElem_toArray, List.getElem_cons_succ, List.getElem_cons_zero]
                  go_simp
                  refine hK.out _ _ ⟨fun h => absurd h (by simp), Below.setCell HBL4.out (Nat.le_refl _) _⟩ (fun _ => ?_)
                  clear hK K
                  (try simp only [Act.put, List.setIfInBounds_toArray, List.set_cons_zero, List.set_cons_succ])
                  refine wpE_all (rs := [17]) (by kernel_rfl) (by simp) ?_
                  refine AllE.cons rfl (fun K hK => ?_) AllE.nil
                  simp only [List.getElem_toArray, List.getElem_cons_succ, List.getElem_cons_zero]
                  go_simp
                  refine hK.out _ _ ⟨fun h => absurd h (by simp), Below.setCell (Below.setCell HBL4.out (Nat.le_refl _) _) (Nat.le_refl _) _⟩ (fun _ => ?_)
                  clear hK K
                  (try simp only [Act.put, List.setIfInBounds_toArray, List.set_cons_zero, List.set_cons_succ])
                  refine wpE_done (by kernel_rfl) ?_ _
                  have hx6 : Below w2.heap.size w5 ((w4.setCell ⟨w2.heap.size, 1, none⟩ (.slice A3 (rem.length + 1) c3)).setCell ⟨w2.heap.size, 0, none⟩ (.slice A4 (add.length + 1) c4)) := Below.setCell (Below.setCell HBL4.out (Nat.le_refl _) _) (Nat.le_refl _) _
                  have hb6 : Bk ((w4.setCell ⟨w2.heap.size, 1, none⟩ (.slice A3 (rem.length + 1) c3)).setCell ⟨w2.heap.size, 0, none⟩ (.slice A4 (add.length + 1) c4)) w2.heap.size 44 #[.slice A4 (add.length + 1) c4, .slice A3 (rem.length + 1) c3] := by have := (HB4.out.set 1 (.slice A3 (rem.length + 1) c3)).set 0 (.slice A4 (add.length + 1) c4); simpa using this
                  have HS6 := Lib.hid (HST5.out.both HEQ.out HXY.out ((HO4.out.far (Nat.lt_succ_self _) _).far (Nat.lt_succ_self _) _) ((HR4.out.far (Nat.lt_succ_self _) _).far (Nat.lt_succ_self _) _) HD4.out.symm hb6 hx6)
                  have HX6 := Lib.hid (Ext.trans' HX5.out hx6)
                  clear hx6 hb6 p4 HBL4 HD4 HO4 HR4 HB4 HX4 hS0 hT0 HBL3 HDR HOR HR HBR HX3
                  generalize w4.setCell ⟨w2.heap.size, 1, none⟩ (.slice A3 (rem.length + 1) c3) = w7 at HS6 HX6 ⊢
                  generalize w7.setCell ⟨w2.heap.size, 0, none⟩ (.slice A4 (add.length + 1) c4) = w8 at HS6 HX6 ⊢
                  have k1 : decide (0 < at_.length + 1) = true := by simp
                  have k2 : decide ((0 : Int) < (at_.length : Int) + 1) = true := by rw [decide_eq_true_eq]; omega
                  have k4 : (1 : Int) ≤ (at_.length : Int) + 1 := by omega
                  have k5 : ((at_.length : Int) + 1 == 0) = false := by simp; omega
                  have j1 : decide (0 < bt.length + 1) = true := by simp
                  have j2 : decide ((0 : Int) < (bt.length : Int) + 1) = true := by rw [decide_eq_true_eq]; omega
                  have j4 : (1 : Int) ≤ (bt.length : Int) + 1 := by omega
                  have j5 : ((bt.length : Int) + 1 == 0) = false := by simp; omega
                  go_wp2_with fail
                  go_quiet (fail)
                  simp only [Exit.inBlock]; unfold QQ; simp only [Exit.then]; refine ⟨?_, ?lt⟩; (repeat apply Exists.intro); refine ⟨?rel, rfl⟩
                  case rel => exact ⟨_, _, _, _, _, _, _, _, at_, bt, rem ++ [x], add ++ [y], rfl, rfl, HS6.out.drewN _, HX6.out.drewN _⟩
                  case lt => exact chgM_lt (Nat.lt_succ_self _) (Nat.le_succ _)
                refine AllE.cons rfl (fun K hK => ?_) ?_
                · simp only [List.getElem_toArray, List.getElem_cons_succ, List.getElem_cons_zero]
                  go_simp
                  refine hK.out _ _ ⟨fun _ => (hS0.alloc _).alloc _, Below.alloc (Below.alloc hT0 (Nat.le_of_lt hX5) _) (by simp; omega) _⟩ (fun _ => ?_)
                  clear hK K
                  (try simp only [Act.put, List.setIfInBounds_toArray, List.set_cons_zero, List.set_cons_succ])
                  refine wpE_all (rs := [6]) (by kernel_rfl) (by simp) ?_
                  refine AllE.cons rfl (fun K hK => ?_) AllE.nil
                  simp only [List.getElem_toArray, List.getElem_cons_succ, List.getElem_cons_zero]
                  have hap := app_gen HST5.out.orem HST5.out.oadd HST5.out.dis HST5.out.bk (by omega) x ((w5.drew.alloc (.cells #[.int .i64 x.en, .string x.kd, .int .i64 x.day, .int .i64 x.byy, .int .i64 x.too, .int .i64 x.am] 30)).alloc (.cells #[.int .i64 y.en, .string y.kd, .int .i64 y.day, .int .i64 y.byy, .int .i64 y.too, .int .i64 y.am] 30)) (some ⟨w5.heap.size, 0, none⟩) (((Ext.refl w5).drew.alloc _).alloc _) ⟨_, SF.one0 w5.drew x 30 _⟩
                  refine step_append_tm (s := .tmp 32) (x := .tmp 36) rfl rfl rfl rfl rfl hap ?_
                  clear hap
                  rintro v' w3 ⟨A3, c3, rfl, hr3, ho3, hd3, hb3, hx3, hn3⟩
                  have HSZ := Lib.hid (SF.keep' (SF.one1 w5.drew y 30 _) hn3 (Nat.le_succ _) (by simp))
                  have HBR := Lib.hid hb3; have HX3 := Lib.hid hx3; have HR := Lib.hid hr3; have HOR := Lib.hid ho3; have HDR := Lib.hid hd3
                  have HBL3 := Lib.hid (Below.mono hx3 (Nat.le_succ _))
                  clear hb3 hx3 hr3 ho3 hd3 hn3
                  refine hK.out _ _ ⟨fun _ => HBR.out, HBL3.out⟩ (fun _ => ?_)
                  clear hK K
                  (try simp only [Act.put, List.setIfInBounds_toArray, List.set_cons_zero, List.set_cons_succ])
                  refine wpE_takeT (i := 14) (d := some 45) (v := .pointer (some ⟨w2.heap.size, 1, none⟩)) rfl rfl (by kernel_rfl) (by kernel_rfl) (by kernel_rfl) rfl (fun _ _ _ h => h) (by rfl) ?hy12 HBL3.out ?go12
                  case hy12 =>
                    intro w9 hT9
                    clear hT9
                    go_simp
                  (try simp only [Act.put, List.setIfInBounds_toArray, List.set_cons_zero, List.set_cons_succ])
                  refine wpE_all (rs := [13]) (by kernel_rfl) (by simp) ?_
                  refine AllE.cons rfl (fun K hK => ?_) AllE.nil
                  simp only [List.getElem_toArray, List.getElem_cons_succ, List.getElem_cons_zero]
                  skip
                  have hap := app_gen HOR.out HR.out HDR.out.symm HBR.out (by omega) y w3 (some ⟨w5.heap.size + 1, 0, none⟩) (Ext.refl _) ⟨_, HSZ.out⟩
                  refine step_append_tm (s := .tmp 39) (x := .tmp 43) rfl rfl rfl rfl rfl hap ?_
                  clear hap
                  rintro v' w4 ⟨A4, c4, rfl, hr4, ho4, hd4, hb4, hx4, hn4⟩
                  have HB4 := Lib.hid hb4; have HX4 := Lib.hid hx4; have HR4 := Lib.hid hr4; have HO4 := Lib.hid ho4; have HD4 := Lib.hid hd4
                  have HBL4 := Lib.hid (Below.trans HBL3.out (Below.mono hx4 (Nat.le_succ _)))
                  obtain ⟨q4, p4⟩ := hb4.cells
                  clear hb4 hx4 hr4 ho4 hd4 hn4
                  refine hK.out _ _ ⟨fun _ => HB4.out, HBL4.out⟩ (fun _ => ?_)
                  clear hK K
                  (try simp only [Act.put, List.setIfInBounds_toArray, List.set_cons_zero, List.set_cons_succ])
                  refine wpE_all (rs := [15]) (by kernel_rfl) (by simp) ?_
                  refine AllE.cons rfl (fun K hK => ?_) AllE.nil
                  simp only [List.getElem_toArray, List.getElem_cons_succ, List.getElem_cons_zero]
                  go_simp
                  refine hK.out _ _ ⟨fun h => absurd h (by simp), Below.setCell HBL4.out (Nat.le_refl _) _⟩ (fun _ => ?_)
                  clear hK K
                  (try simp only [Act.put, List.setIfInBounds_toArray, List.set_cons_zero, List.set_cons_succ])
                  refine wpE_all (rs := [16]) (by kernel_rfl) (by simp) ?_
                  refine AllE.cons rfl (fun K hK => ?_) AllE.nil
                  simp only [List.getElem_toArray, List.getElem_cons_succ, List.getElem_cons_zero]
                  go_simp
                  refine hK.out _ _ ⟨fun h => absurd h (by simp), Below.setCell HBL4.out (Nat.le_refl _) _⟩ (fun _ => ?_)
                  clear hK K
                  (try simp only [Act.put, List.setIfInBounds_toArray, List.set_cons_zero, List.set_cons_succ])
                  refine wpE_all (rs := [17]) (by kernel_rfl) (by simp) ?_
                  refine AllE.cons rfl (fun K hK => ?_) AllE.nil
                  simp only [List.getElem_toArray, List.getElem_cons_succ, List.getElem_cons_zero]
                  go_simp
                  refine hK.out _ _ ⟨fun h => absurd h (by simp), Below.setCell (Below.setCell HBL4.out (Nat.le_refl _) _) (Nat.le_refl _) _⟩ (fun _ => ?_)
                  clear hK K
                  (try simp only [Act.put, List.setIfInBounds_toArray, List.set_cons_zero, List.set_cons_succ])
                  refine wpE_done (by kernel_rfl) ?_ _
                  have hx6 : Below w2.heap.size w5 ((w4.setCell ⟨w2.heap.size, 1, none⟩ (.slice A3 (rem.length + 1) c3)).setCell ⟨w2.heap.size, 0, none⟩ (.slice A4 (add.length + 1) c4)) := Below.setCell (Below.setCell HBL4.out (Nat.le_refl _) _) (Nat.le_refl _) _
                  have hb6 : Bk ((w4.setCell ⟨w2.heap.size, 1, none⟩ (.slice A3 (rem.length + 1) c3)).setCell ⟨w2.heap.size, 0, none⟩ (.slice A4 (add.length + 1) c4)) w2.heap.size 44 #[.slice A4 (add.length + 1) c4, .slice A3 (rem.length + 1) c3] := by have := (HB4.out.set 1 (.slice A3 (rem.length + 1) c3)).set 0 (.slice A4 (add.length + 1) c4); simpa using this
                  have HS6 := Lib.hid (HST5.out.both HEQ.out HXY.out ((HO4.out.far (Nat.lt_succ_self _) _).far (Nat.lt_succ_self _) _) ((HR4.out.far (Nat.lt_succ_self _) _).far (Nat.lt_succ_self _) _) HD4.out.symm hb6 hx6)
                  have HX6 := Lib.hid (Ext.trans' HX5.out hx6)
                  clear hx6 hb6 p4 HBL4 HD4 HO4 HR4 HB4 HX4 hS0 hT0 HBL3 HDR HOR HR HBR HX3
                  generalize w4.setCell ⟨w2.heap.size, 1, none⟩ (.slice A3 (rem.length + 1) c3) = w7 at HS6 HX6 ⊢
                  generalize w7.setCell ⟨w2.heap.size, 0, none⟩ (.slice A4 (add.length + 1) c4) = w8 at HS6 HX6 ⊢
                  have k1 : decide (0 < at_.length + 1) = true := by simp
                  have k2 : decide ((0 : Int) < (at_.length : Int) + 1) = true := by rw [decide_eq_true_eq]; omega
                  have k4 : (1 : Int) ≤ (at_.length : Int) + 1 := by omega
                  have k5 : ((at_.length : Int) + 1 == 0) = false := by simp; omega
                  have j1 : decide (0 < bt.length + 1) = true := by simp
                  have j2 : decide ((0 : Int) < (bt.length : Int) + 1) = true := by rw [decide_eq_true_eq]; omega
                  have j4 : (1 : Int) ≤ (bt.length : Int) + 1 := by omega
                  have j5 : ((bt.length : Int) + 1 == 0) = false := by simp; omega
                  go_wp2_with fail
                  go_quiet (fail)
                  simp only [Exit.inBlock]; unfold QQ; simp only [Exit.then]; refine ⟨?_, ?lt⟩; (repeat apply Exists.intro); refine ⟨?rel, rfl⟩
                  case rel => exact ⟨_, _, _, _, _, _, _, _, at_, bt, rem ++ [x], add ++ [y], rfl, rfl, HS6.out.drewN _, HX6.out.drewN _⟩
                  case lt => exact chgM_lt (Nat.lt_succ_self _) (Nat.le_succ _)
                exact AllE.nil
              refine AllE.cons rfl (fun K hK => ?_) ?_
              · simp only [List.getElem_toArray, List.getElem_cons_succ, List.getElem_cons_zero]
                go_simp
                refine hK.out _ _ ⟨fun _ => hS0.alloc _, Below.alloc hT0 (Nat.le_of_lt hX5) _⟩ (fun _ => ?_)
                clear hK K
                (try simp only [Act.put, List.setIfInBounds_toArray, List.set_cons_zero, List.set_cons_succ])
                refine wpE_all (rs := [5]) (by kernel_rfl) (by simp) ?_
                refine AllE.cons rfl (fun K hK => ?_) ?_
                · simp only [List.getElem_toArray, List.getElem_cons_succ, List.getElem_cons_zero]
                  go_simp
                  refine hK.out _ _ ⟨fun _ => (hS0.alloc _).alloc _, Below.alloc (Below.alloc hT0 (Nat.le_of_lt hX5) _) (by simp; omega) _⟩ (fun _ => ?_)
                  clear hK K
                  (try simp only [Act.put, List.setIfInBounds_toArray, List.set_cons_zero, List.set_cons_succ])
                  refine wpE_all (rs := [6]) (by kernel_rfl) (by simp) ?_
                  refine AllE.cons rfl (fun K hK => ?_) AllE.nil
                  simp only [List.getElem_toArray, List.getElem_cons_succ, List.getElem_cons_zero]
                  have hap := app_gen HST5.out.orem HST5.out.oadd HST5.out.dis HST5.out.bk (by omega) x ((w5.drew.alloc (.cells #[.int .i64 y.en, .string y.kd, .int .i64 y.day, .int .i64 y.byy, .int .i64 y.too, .int .i64 y.am] 30)).alloc (.cells #[.int .i64 x.en, .string x.kd, .int .i64 x.day, .int .i64 x.byy, .int .i64 x.too, .int .i64 x.am] 30)) (some ⟨w5.heap.size + 1, 0, none⟩) (((Ext.refl w5).drew.alloc _).alloc _) ⟨_, SF.one1 w5.drew x 30 _⟩
                  refine step_append_tm (s := .tmp 32) (x := .tmp 36) rfl rfl rfl rfl rfl hap ?_
                  clear hap
                  rintro v' w3 ⟨A3, c3, rfl, hr3, ho3, hd3, hb3, hx3, hn3⟩
                  have HSZ := Lib.hid (SF.keep' (SF.one0 w5.drew y 30 _) hn3 (Nat.le_refl _) (by simp; omega))
                  have HBR := Lib.hid hb3; have HX3 := Lib.hid hx3; have HR := Lib.hid hr3; have HOR := Lib.hid ho3; have HDR := Lib.hid hd3
                  have HBL3 := Lib.hid (Below.mono hx3 (Nat.le_succ _))
                  clear hb3 hx3 hr3 ho3 hd3 hn3
                  refine hK.out _ _ ⟨fun _ => HBR.out, HBL3.out⟩ (fun _ => ?_)
                  clear hK K
                  (try simp only [Act.put, List.setIfInBounds_toArray, List.set_cons_zero, List.set_cons_succ])
                  refine wpE_takeT (i := 14) (d := some 45) (v := .pointer (some ⟨w2.heap.size, 1, none⟩)) rfl rfl (by kernel_rfl) (by kernel_rfl) (by kernel_rfl) rfl (fun _ _ _ h => h) (by rfl) ?hy13 HBL3.out ?go13
                  case hy13 =>
                    intro w9 hT9
                    clear hT9
                    go_simp
                  (try simp only [Act.put, List.setIfInBounds_toArray, List.set_cons_zero, List.set_cons_succ])
                  refine wpE_all (rs := [13]) (by kernel_rfl) (by simp) ?_
                  refine AllE.cons rfl (fun K hK => ?_) AllE.nil
                  simp only [List.getElem_toArray, List.getElem_cons_succ, List.getElem_cons_zero]
                  skip
                  have hap := app_gen HOR.out HR.out HDR.out.symm HBR.out (by omega) y w3 (some ⟨w5.heap.size, 0, none⟩) (Ext.refl _) ⟨_, HSZ.out⟩
                  refine step_append_tm (s := .tmp 39) (x := .tmp 43) rfl rfl rfl rfl rfl hap ?_
                  clear hap
                  rintro v' w4 ⟨A4, c4, rfl, hr4, ho4, hd4, hb4, hx4, hn4⟩
                  have HB4 := Lib.hid hb4; have HX4 := Lib.hid hx4; have HR4 := Lib.hid hr4; have HO4 := Lib.hid ho4; have HD4 := Lib.hid hd4
                  have HBL4 := Lib.hid (Below.trans HBL3.out (Below.mono hx4 (Nat.le_succ _)))
                  obtain ⟨q4, p4⟩ := hb4.cells
                  clear hb4 hx4 hr4 ho4 hd4 hn4
                  refine hK.out _ _ ⟨fun _ => HB4.out, HBL4.out⟩ (fun _ => ?_)
                  clear hK K
                  (try simp only [Act.put, List.setIfInBounds_toArray, List.set_cons_zero, List.set_cons_succ])
                  refine wpE_all (rs := [15]) (by kernel_rfl) (by simp) ?_
                  refine AllE.cons rfl (fun K hK => ?_) AllE.nil
                  simp only [List.getElem_toArray, List.getElem_cons_succ, List.getElem_cons_zero]
                  go_simp
                  refine hK.out _ _ ⟨fun h => absurd h (by simp), Below.setCell HBL4.out (Nat.le_refl _) _⟩ (fun _ => ?_)
                  clear hK K
                  (try simp only [Act.put, List.setIfInBounds_toArray, List.set_cons_zero, List.set_cons_succ])
                  refine wpE_all (rs := [16]) (by kernel_rfl) (by simp) ?_
                  refine AllE.cons rfl (fun K hK => ?_) AllE.nil
                  simp only [List.getElem_toArray, List.getElem_cons_succ, List.getElem_cons_zero]
                  go_simp
                  refine hK.out _ _ ⟨fun h => absurd h (by simp), Below.setCell HBL4.out (Nat.le_refl _) _⟩ (fun _ => ?_)
                  clear hK K
                  (try simp only [Act.put, List.setIfInBounds_toArray, List.set_cons_zero, List.set_cons_succ])
                  refine wpE_all (rs := [17]) (by kernel_rfl) (by simp) ?_
                  refine AllE.cons rfl (fun K hK => ?_) AllE.nil
                  simp only [List.getElem_toArray, List.getElem_cons_succ, List.getElem_cons_zero]
                  go_simp
                  refine hK.out _ _ ⟨fun h => absurd h (by simp), Below.setCell (Below.setCell HBL4.out (Nat.le_refl _) _) (Nat.le_refl _) _⟩ (fun _ => ?_)
                  clear hK K
                  (try simp only [Act.put, List.setIfInBounds_toArray, List.set_cons_zero, List.set_cons_succ])
                  refine wpE_done (by kernel_rfl) ?_ _
                  have hx6 : Below w2.heap.size w5 ((w4.setCell ⟨w2.heap.size, 1, none⟩ (.slice A3 (rem.length + 1) c3)).setCell ⟨w2.heap.size, 0, none⟩ (.slice A4 (add.length + 1) c4)) := Below.setCell (Below.setCell HBL4.out (Nat.le_refl _) _) (Nat.le_refl _) _
                  have hb6 : Bk ((w4.setCell ⟨w2.heap.size, 1, none⟩ (.slice A3 (rem.length + 1) c3)).setCell ⟨w2.heap.size, 0, none⟩ (.slice A4 (add.length + 1) c4)) w2.heap.size 44 #[.slice A4 (add.length + 1) c4, .slice A3 (rem.length + 1) c3] := by have := (HB4.out.set 1 (.slice A3 (rem.length + 1) c3)).set 0 (.slice A4 (add.length + 1) c4); simpa using this
                  have HS6 := Lib.hid (HST5.out.both HEQ.out HXY.out ((HO4.out.far (Nat.lt_succ_self _) _).far (Nat.lt_succ_self _) _) ((HR4.out.far (Nat.lt_succ_self _) _).far (Nat.lt_succ_self _) _) HD4.out.symm hb6 hx6)
                  have HX6 := Lib.hid (Ext.trans' HX5.out hx6)
                  clear hx6 hb6 p4 HBL4 HD4 HO4 HR4 HB4 HX4 hS0 hT0 HBL3 HDR HOR HR HBR HX3
                  generalize w4.setCell ⟨w2.heap.size, 1, none⟩ (.slice A3 (rem.length + 1) c3) = w7 at HS6 HX6 ⊢
                  generalize w7.setCell ⟨w2.heap.size, 0, none⟩ (.slice A4 (add.length + 1) c4) = w8 at HS6 HX6 ⊢
                  have k1 : decide (0 < at_.length + 1) = true := by simp
                  have k2 : decide ((0 : Int) < (at_.length : Int) + 1) = true := by rw [decide_eq_true_eq]; omega
                  have k4 : (1 : Int) ≤ (at_.length : Int) + 1 := by omega
                  have k5 : ((at_.length : Int) + 1 == 0) = false := by simp; omega
                  have j1 : decide (0 < bt.length + 1) = true := by simp
                  have j2 : decide ((0 : Int) < (bt.length : Int) + 1) = true := by rw [decide_eq_true_eq]; omega
                  have j4 : (1 : Int) ≤ (bt.length : Int) + 1 := by omega
                  have j5 : ((bt.length : Int) + 1 == 0) = false := by simp; omega
                  go_wp2_with fail
                  go_quiet (fail)
                  simp only [Exit.inBlock]; unfold QQ; simp only [Exit.then]; refine ⟨?_, ?lt⟩; (repeat apply Exists.intro); refine ⟨?rel, rfl⟩
                  case rel => exact ⟨_, _, _, _, _, _, _, _, at_, bt, rem ++ [x], add ++ [y], rfl, rfl, HS6.out.drewN _, HX6.out.drewN _⟩
                  case lt => exact chgM_lt (Nat.lt_succ_self _) (Nat.le_succ _)
                exact AllE.nil
              exact AllE.nil
            · rw [hd] at hcmp
              have HXY := Lib.hid (of_decide_eq_true hd)
              clear hd
              go_wp2
              go_quiet (fail)
              go_wp2_with fail
              go_quiet (fail)
              go_wp2_with fail
              go_quiet (fail)
              go_wp2_with fail
              clear hcmp q1 p1 q1a q1b p1b p1a e0 e1 e2 e3 e4 e5 f0 f1 f2 f3 f4 f5
              go_quiet (fail)
              simp only [Exit.inBlock]; rename_i QQ nq7 nq8 nq9; unfold QQ; simp only [Exit.then]; refine ⟨?_, ?lt⟩; (repeat apply Exists.intro); refine ⟨?rel, rfl⟩
              case rel => exact ⟨_, _, _, _, _, _, _, _, at_, bt, rem, add, rfl, rfl, ((((HST.out.skip2 HXY.out).drewN _).drewN _).drewN _).drewN _, (((HX.out.drewN _).drewN _).drewN _).drewN _⟩
              case lt => exact chgM_lt (Nat.lt_succ_self _) (Nat.le_succ _)
end Go.Proofs.Ythjjdeabfnlbjaa
