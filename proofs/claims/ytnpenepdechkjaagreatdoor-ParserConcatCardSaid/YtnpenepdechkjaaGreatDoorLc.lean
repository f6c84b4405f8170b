/- The law of two sources walked. -/
import Derived.Test.YtnpenepdechkjaaGreatDoorMj
import Derived.Test.YtnpenepdechkjaaGreatDoorQi
namespace Go.Proofs.YtnpenepdechkjaaGreatDoor
open Go Go.RowKit

/-- append in a guarded place, where its run is known. -/
theorem wpList_append_runG {P : Program} {w : World} {ops : Array Oper} {rest : List Oper} {o : Oper} {a : Act} {Q : Exit → Act → World → Prop} {s x : Operand} {t : TypeId} {vs vx v' : Value} {w' : World}
    (hr : (Builtin.append_ #[t, t] t #[vs, vx]).run P w = .ok v' w') (hgd : Region.wanted o (yielded ops a.tmps) = true)
    (ho : o.op = .call { callee := .builtin .append, args := #[s, x], argTypes := #[t, t] }) (hty : o.type = t) (hs : a.eval s = vs) (hx : a.eval x = vx)
    (h : wpList P ops Q rest (a.put o.dst v') w') : wpList P ops Q (o :: rest) a w := by
  refine wpList_step fun K hK => ?_
  rw [if_pos hgd]
  unfold Oper.wp execOp
  simp only [ho, hty, resolve, invoke, builtin, Sem.run_bind, Sem.run_pure, Result.andThen_ok, List.map_toArray, List.map_cons, List.map_nil, hs, hx, hr]
  exact hK _ _ h
/-- append of a row of rules. -/
theorem apR {w : World} {base : Nat} {v : Value} {l : List RlD} (h : OL rcf 13 w base 50 v l) {A : Option Addr} {m : Nat} {l' : List RlD} (hs : SL rcf 13 w A m l') (c : Nat) (hm : l.length + m ≤ 100000000) (hbase : base ≤ w.heap.size) :
    ∃ A' c' w', (Builtin.append_ #[22, 22] 22 #[v, .slice A m c]).run Tryz.prog w = .ok (.slice A' (l.length + m) c') w' ∧ OL rcf 13 w' base 50 (.slice A' (l.length + m) c') (l ++ l') ∧ (∀ B, B ≤ base → Below B w w') := by
  obtain ⟨A', c', w', h1, h2, h3, _⟩ := OL.append (cf := rcf) (sz := 13) rcf_len rcf_one (by omega) Tryz.underlying22 info50 rfl (by omega) h hs c hm hbase
  exact ⟨A', c', w', h1, h2, h3⟩
/-- Two rows of rules behind one another, in a row of their own. -/
theorem apR2 {X : World} {P Q : Nat → Prop} {A B : Option Addr} {a b : List Rl} (ha : RW X P A a.length a) (hb : RW X Q B b.length b) (hla : a.length ≤ 100000) (hlb : b.length ≤ 100000) (c c' : Nat) :
    ∃ A1 c1 w1 A2 c2 w2, (Builtin.append_ #[22, 22] 22 #[.slice (some ⟨X.heap.size, 0, none⟩) 0 0, .slice A a.length c]).run Tryz.prog (X.alloc (.cells #[] 50)) = .ok (.slice A1 a.length c1) w1 ∧
      (Builtin.append_ #[22, 22] 22 #[.slice A1 a.length c1, .slice B b.length c']).run Tryz.prog w1 = .ok (.slice A2 (a.length + b.length) c2) w2 ∧ RW w2 (fun _ => True) A2 (a ++ b).length (a ++ b) ∧ Ext X w2 := by
  have hx0 : Ext X (X.alloc (.cells #[] 50)) := (Ext.refl _).alloc _
  have ho0 : OL rcf 13 (X.alloc (.cells #[] 50)) X.heap.size 50 (.slice (some ⟨X.heap.size, 0, none⟩) 0 0) ([] : List RlD) :=
    ⟨rfl, .inr ⟨X.heap.size, 0, #[], rfl, Nat.le_refl _, heap_alloc_new _ _, Nat.le_refl _, by simp [maxLen], rfl, rfl⟩⟩
  obtain ⟨ds1, e1, e2, e3, _, e5⟩ := ha
  obtain ⟨A1, c1, w1, r1, o1, b1⟩ := apR ho0 (e3.ext hx0) c (by simp; omega) (by simp)
  rw [List.nil_append] at o1
  simp only [List.length_nil, Nat.zero_add] at r1 o1
  have hx1 : Ext X w1 := Below.trans hx0 (b1 _ (Nat.le_refl _))
  obtain ⟨ds2, f1, f2, f3, _, f5⟩ := hb
  obtain ⟨A2, c2, w2, r2, o2, b2⟩ := apR o1 (f3.ext hx1) c' (by rw [e2]; omega) hx1.lt
  rw [e2] at r2 o2
  have hx2 : Ext X w2 := Below.trans hx1 (b2 _ (Nat.le_refl _))
  refine ⟨A1, c1, w1, A2, c2, w2, r1, r2, ?_, hx2⟩
  obtain ⟨A3, c3, q1, _, q3⟩ := OL.form rcf_len o2
  injection q1 with q1 q11 q12
  subst q1
  refine ⟨ds1 ++ ds2, rfl, by simp [e2, f2], ?_, fun x hx => ?_, fun i d t h1 h2 => ?_⟩
  · rw [show (a ++ b).length = (ds1 ++ ds2).length by simp [e2, f2]]; exact q3
  · refine ⟨trivial, ?_⟩
    have := World.ownsRow.lt o2 x.block (by rw [hx]; rfl)
    exact this.2
  · rw [List.getElem?_append] at h1 h2
    rw [e2] at h1
    split at h1
    · next hi =>
      rw [if_pos hi] at h2
      exact ((e5 i d t h1 h2).ext hx2).mono fun _ _ _ => trivial
    · next hi =>
      rw [if_neg hi] at h2
      exact ((f5 _ d t h1 h2).ext hx2).mono fun _ _ _ => trivial
set_option maxHeartbeats 2000000 in
set_option maxRecDepth 100000 in
theorem concat_any (s s' : ByteArray) (w : World) (hs : s.size ≤ 281474976710656) (hs' : s'.size ≤ 281474976710656) (hE : EnvP w) : Calls Tryz.prog 10 #[.string s, .string s'] w (BQ2 true w) := by
  have HE := Lib.hid hE
  have HP := Lib.hid (pParse_any s w hs hE.1)
  have HP2 := Lib.hid (fun X (hX : Ext w X) => pParse_any s' X hs' (hE.1.ext hX))
  have HLV := Lib.hid (fun X (hX : Ext w X) => lives_any X (hE.ext hX))
  have HSZ := Lib.hid (parseR_sz s.data.toList)
  have HSZ2 := Lib.hid (parseR_sz s'.data.toList)
  have HLAW := Lib.hid (fun h1 h2 => concat_R (a := s.data.toList) (b := s'.data.toList) h1 h2)
  have z1 : s.data.toList.length = s.size := by rw [Array.length_toList]; rfl
  have z2 : s'.data.toList.length = s'.size := by rw [Array.length_toList]; rfl
  rw [z1, z2] at HLAW
  clear z1 z2
  obtain ⟨y, hy⟩ : ∃ y, y = parseR s.data.toList := ⟨_, rfl⟩
  obtain ⟨y', hy'⟩ : ∃ y, y = parseR s'.data.toList := ⟨_, rfl⟩
  rw [← hy] at HP HSZ HLAW
  rw [← hy'] at HP2 HSZ2 HLAW
  clear hE hy hy'
  obtain ⟨v, at_, er⟩ := y
  obtain ⟨v', at', er'⟩ := y'
  simp only at HP HSZ HLAW HP2 HSZ2
  have hI : (s.size : Int) ≤ 281474976710656 := by omega
  have hI' : (s'.size : Int) ≤ 281474976710656 := by omega
  by_cases he : er = 0
  case neg =>
    have t0 : (er != 0) = true := by simpa using he
    clear he
    go_enter Tryz.func10, Tryz.ntmps10
    go_upto_region 2 with (first | (go_at_call 14; refine (HP.out).mono ?_; rintro e w1 ⟨v1, rfl, ⟨A1, c1, rfl, _⟩, hx1⟩; have HX1 := Lib.hid hx1; clear hx1))
    go_wp2_with (first
      | (go_at_call 14; refine (HP2.out _ HX1.out).mono ?_; rintro e w2 ⟨v2, rfl, ⟨A2, c2, rfl, _⟩, hx2⟩; have HX2 := Lib.hid (HX1.out.trans hx2); clear hx2)
      | (go_at_call 17; refine (HLV.out _ HX2.out).mono ?_; rintro e w3 ⟨rfl, hx3⟩))
    go_ret
    exact ⟨rfl, HX2.out.trans hx3⟩
  have t0 : (er != 0) = false := by simp [he]
  by_cases he' : er' = 0
  case neg =>
    have t1 : (er' != 0) = true := by simpa using he'
    clear he he'
    go_enter Tryz.func10, Tryz.ntmps10
    go_upto_region 2 with (first | (go_at_call 14; refine (HP.out).mono ?_; rintro e w1 ⟨v1, rfl, ⟨A1, c1, rfl, _⟩, hx1⟩; have HX1 := Lib.hid hx1; clear hx1))
    go_wp2_with (first
      | (go_at_call 14; refine (HP2.out _ HX1.out).mono ?_; rintro e w2 ⟨v2, rfl, ⟨A2, c2, rfl, _⟩, hx2⟩; have HX2 := Lib.hid (HX1.out.trans hx2); clear hx2)
      | (go_at_call 17; refine (HLV.out _ HX2.out).mono ?_; rintro e w3 ⟨rfl, hx3⟩))
    go_ret
    exact ⟨rfl, HX2.out.trans hx3⟩
  have t1 : (er' != 0) = false := by simp [he']
  by_cases hl : s.size + s'.size + 1 ≤ 4000
  case neg =>
    have t2 : (4000 : Int) < (s.size : Int) + (s'.size : Int) + 1 := by omega
    clear he he' hl
    go_enter Tryz.func10, Tryz.ntmps10
    go_upto_region 2 with (first | (go_at_call 14; refine (HP.out).mono ?_; rintro e w1 ⟨v1, rfl, ⟨A1, c1, rfl, _⟩, hx1⟩; have HX1 := Lib.hid hx1; clear hx1))
    go_wp2_with (first
      | (go_at_call 14; refine (HP2.out _ HX1.out).mono ?_; rintro e w2 ⟨v2, rfl, ⟨A2, c2, rfl, _⟩, hx2⟩; have HX2 := Lib.hid (HX1.out.trans hx2); clear hx2)
      | (go_at_call 17; refine (HLV.out _ HX2.out).mono ?_; rintro e w3 ⟨rfl, hx3⟩))
    go_ret
    exact ⟨rfl, HX2.out.trans hx3⟩
  have t2 : ¬ (4000 : Int) < (s.size : Int) + (s'.size : Int) + 1 := by omega
  obtain ⟨q1, q2⟩ := HLAW.out he he' hl
  have q0 : ¬ 9223372036854775807 < s.size + 1 := by omega
  have q3 : ¬ 9223372036854775807 < s.size + 1 + s'.size := by omega
  have HP3 := Lib.hid (fun X (hX : Ext w X) => (show Calls Tryz.prog 14 #[.string (s ++ ⟨#[10]⟩ ++ s')] X (fun e W' => ∃ A c a2, e = .returned (.tuple #[.slice A (v ++ v').length c, .int .i64 a2, .int .i64 0]) ∧ RW W' (fun k => X.heap.size ≤ k) A (v ++ v').length (v ++ v') ∧ Ext X W') from by
    have e9 : (s ++ ⟨#[10]⟩ ++ s').data.toList = s.data.toList ++ 10 :: s'.data.toList := by simp
    have z9 : (s ++ ⟨#[10]⟩ ++ s').size ≤ 281474976710656 := by
      have : (s ++ ⟨#[10]⟩ ++ s').size = s.size + 1 + s'.size := by rw [ByteArray.size_append, ByteArray.size_append]; rfl
      omega
    refine (pParse_any _ X z9 (HE.out.1.ext hX)).mono ?_
    rintro e W' ⟨v1, rfl, ⟨A, c, rfl, hrw⟩, hx⟩
    rw [e9] at hrw ⊢
    rw [q2] at hrw ⊢
    rw [q1]
    exact ⟨A, c, _, rfl, hrw, hx⟩))
  have HSR := Lib.hid (fun A c B c' P Q X (ha : RW X P A (v ++ v').length (v ++ v')) (hb : RW X Q B (v ++ v').length (v ++ v')) => (show Calls Tryz.prog 16 #[.slice A (v ++ v').length c, .slice B (v ++ v').length c'] X (BQ2 true X) from by
    have hsz : ∀ r ∈ v ++ v', tsz r.if_ ≤ 1000000 ∧ tsz r.due ≤ 1000000 := fun r hr => by
      rcases List.mem_append.1 hr with hr | hr
      · have := HSZ.out.2 r hr; omega
      · have := HSZ2.out.2 r hr; omega
    have hln : (v ++ v').length ≤ 1000000 := by have := HSZ.out.1; have := HSZ2.out.1; rw [List.length_append]; omega
    have h9 := sameR_any A B c c' _ _ P Q X hln hln hsz hsz ha hb
    rw [(eqRs_iff _ _).2 rfl] at h9; exact h9))
  have HAP := Lib.hid (fun X P Q A B c c' (ha : RW X P A v.length v) (hb : RW X Q B v'.length v') => apR2 ha hb (by have := HSZ.out.1; omega) (by have := HSZ2.out.1; omega) c c')
  have hee := he
  have hee' := he'
  clear he he' hl q1 q2
  subst hee hee'
  unfold PaPost RWl at HP HP2
  simp only at HP HP2
  have hnn : (v ++ v').length = v.length + v'.length := List.length_append
  rw [hnn] at HP3 HSR
  simp only [hnn] at HAP
  clear hnn
  obtain ⟨vv, hvv⟩ : ∃ x, x = v ++ v' := ⟨_, rfl⟩
  rw [← hvv] at HP3 HSR
  simp only [← hvv] at HAP
  clear hvv
  obtain ⟨n, hn⟩ : ∃ n, n = v.length := ⟨_, rfl⟩
  obtain ⟨n', hn'⟩ : ∃ n, n = v'.length := ⟨_, rfl⟩
  rw [← hn] at HP HP3 HSR
  rw [← hn'] at HP2 HP3 HSR
  simp only [← hn, ← hn'] at HAP
  clear hn hn' t0 t1
  go_enter Tryz.func10, Tryz.ntmps10
  go_upto_region 2 with (first | (go_at_call 14; refine (HP.out).mono ?_; rintro e w1 ⟨v1, rfl, ⟨A1, c1, rfl, hrw1⟩, hx1⟩; have HX1 := Lib.hid hx1; have HR1 := Lib.hid hrw1; clear hx1 hrw1))
  go_upto_region 5 with (first | (go_at_call 14; refine (HP2.out _ HX1.out).mono ?_; rintro e w2 ⟨v2, rfl, ⟨A2, c2, rfl, hrw2⟩, hx2⟩; have HX2 := Lib.hid (HX1.out.trans hx2); have HR12 := Lib.hid (HR1.out.ext hx2); have HR2 := Lib.hid hrw2; clear hx2 hrw2))
  go_upto_region 6 with (first | (go_at_call 14; refine (HP3.out _ HX2.out).mono ?_; rintro e w3 ⟨A3, c3, a3, rfl, hrw3, hx3⟩; have HX3 := Lib.hid (HX2.out.trans hx3); have HR13 := Lib.hid (HR12.out.ext hx3); have HR23 := Lib.hid (HR2.out.ext hx3); have HR3 := Lib.hid hrw3; clear hx3 hrw3))
  obtain ⟨A4, c4, w4, A5, c5, w5, r4, r5, hrw5, hx5⟩ := HAP.out _ _ _ _ _ c1 c2 HR13.out HR23.out
  have HR5 := Lib.hid hrw5
  have HX5 := Lib.hid hx5
  clear hrw5 hx5
  go_wp2_with (first
    | (at_builtin; refine wpList_append_runG (s := .tmp 55) (x := .tmp 56) r4 (by first | rfl | simp [Region.wanted, yielded, go_sem]) rfl rfl rfl rfl ?_)
    | (at_builtin; refine wpList_append_runG (s := .tmp 57) (x := .tmp 58) r5 (by first | rfl | simp [Region.wanted, yielded, go_sem]) rfl rfl rfl rfl ?_)
    | (go_at_call 16; refine (HSR.out _ _ _ _ _ _ _ (HR3.out.ext HX5.out) HR5.out).mono ?_; rintro e w6 ⟨rfl, hx6⟩; have HX6 := Lib.hid ((HX3.out.trans HX5.out).trans hx6); clear hx6)
    | (go_at_call 17; refine (HLV.out _ HX6.out).mono ?_; rintro e w7 ⟨rfl, hx7⟩))
  go_ret
  exact ⟨rfl, HX6.out.trans hx7⟩
end Go.Proofs.YtnpenepdechkjaaGreatDoor
