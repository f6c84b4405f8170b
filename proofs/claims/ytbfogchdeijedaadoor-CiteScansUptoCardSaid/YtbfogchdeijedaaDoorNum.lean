/- The contract of the closure that reads a number. -/
import Derived.Test.YtbfogchdeijedaaDoorClo
namespace Go.Proofs.YtbfogchdeijedaaDoor
open Go Go.RowKit

/-- What the library's parsers read, in every world that grows from w: the table of powers, the two sentinels. -/
structure Env (w : World) : Prop where
  tab : Tab w
  syn : ∃ tp p, ∀ W, Ext w W → W.var? Tryd.prog "strconv.ErrSyntax" = some #[.iface tp p]
  rng : ∃ tp p, ∀ W, Ext w W → W.var? Tryd.prog "strconv.ErrRange" = some #[.iface tp p]
theorem Env.ext {w w' : World} (h : Env w) (hx : Ext w w') : Env w' :=
  ⟨h.tab.ext hx, h.syn.imp fun _ h => h.imp fun _ h W hW => h W (hx.trans hW), h.rng.imp fun _ h => h.imp fun _ h W hW => h W (hx.trans hW)⟩
theorem atoi_bounds {l : List UInt8} {v : Int} (h : Lib.atoiAll l = .ok v) : -9223372036854775808 ≤ v ∧ v ≤ 9223372036854775807 := by
  unfold Lib.atoiAll at h
  cases l with
  | nil => cases h
  | cons c r =>
    simp only at h
    split at h
    · cases h
    · cases h
    · split at h
      · cases h
      · split at h
        · cases h
        · injection h with h
          subst h
          split <;> omega
theorem atoi_ok_any (s : ByteArray) (v : Int) (X : World) (hs : s.size ≤ 281474976710656) (h : Lib.atoiAll s.data.toList = .ok v) :
    Calls Tryd.prog 27 #[.string s] X fun e X' => e = .returned (.tuple #[.int .i64 v, .nilIface]) ∧ Ext X X' := by
  refine (Tryd.strconv_Atoi_ok s (by omega) v h X).mono ?_
  rintro e X' ⟨rfl, h1 | ⟨t, h1⟩⟩
  · subst h1; exact ⟨rfl, Ext.refl _⟩
  · subst h1; exact ⟨rfl, Lib.bytesWorld_below X 5 t⟩
def AtBad (X : World) (e : Ending) (X' : World) : Prop := ∃ (v : Int) (N : Nat), e = .returned (.tuple #[.int .i64 v, .iface 81 (.pointer (some ⟨N, 0, none⟩))]) ∧ Ext X X'
theorem atoi_bad_any (s : ByteArray) (X : World) (hs : s.size ≤ 281474976710656) (hE : Env X) (h : ∀ v, Lib.atoiAll s.data.toList ≠ .ok v) :
    Calls Tryd.prog 27 #[.string s] X (AtBad X) := by
  rcases ha : Lib.atoiAll s.data.toList with v | _ | _
  · exact absurd ha (h v)
  · obtain ⟨tp, p, hv⟩ := hE.syn
    refine (Any.strconv_Atoi_syntax_var Tryd.laysC172 s hs ha tp p X (hv X (Ext.refl _))).mono ?_
    rintro e X' ⟨N, rfl, _, _, hb⟩
    exact ⟨_, N, rfl, hb⟩
  · obtain ⟨tp, p, hv⟩ := hE.rng
    refine (Tryd.strconv_Atoi_range_var s hs ha tp p X (hv X (Ext.refl _))).mono ?_
    rintro e X' ⟨N, rfl, _, _, hb⟩
    exact ⟨_, N, rfl, hb⟩
theorem itoa_int (v : Int) (S : ByteArray) (X : World) (h0 : -9223372036854775808 ≤ v) (h1 : v ≤ 9223372036854775807) (hS : S = ⟨(Lib.itoa v).toArray⟩) (htab : Tab X) :
    Calls Tryd.prog 19 #[.int .i64 v] X fun e X' => e = .returned (.string S) ∧ Ext X X' := by
  refine (Tryd.strconv_Itoa v h0 h1 X (htab X (Ext.refl X))).mono ?_
  rintro e w2 ⟨rfl, k9, os, rfl⟩
  exact ⟨by rw [hS], Lib.below_grow _ _ (Nat.le_refl _) k9 os⟩
def NumPost (w W : World) (s : List UInt8) (r : ByteArray) (k : Bool) (e : Ending) (W' : World) : Prop :=
  ∃ v : Int, e = .returned (.int .i64 v) ∧ PSt w W' r (k && (numP s).isSome) ∧ Keep w W W' ∧ ∀ x, numP s = some x → v = x
theorem num_none {s : List UInt8} (h : ∀ x, numP s ≠ some x) : numP s = none := by
  cases h1 : numP s with
  | none => rfl
  | some x => exact absurd h1 (h x)
theorem numpost_no {w W W' : World} {s : List UInt8} {r : ByteArray} {v : Int} {k : Bool} (h : k = false ∨ numP s = none) (hS : PSt w W' r false) (hK : Keep w W W') (hv : ∀ x, numP s = some x → v = x) : NumPost w W s r k (.returned (.int .i64 v)) W' := by
  refine ⟨v, rfl, ?_, hK, hv⟩
  have e : (k && (numP s).isSome) = false := by rcases h with h | h <;> simp [h]
  rw [e]; exact hS
theorem numpost_yes {w W W' : World} {s : List UInt8} {r : ByteArray} {v : Int} (h : numP s = some v.toNat) (hS : PSt w W' r true) (hK : Keep w W W') (h0 : 0 ≤ v) : NumPost w W s r true (.returned (.int .i64 v)) W' := by
  refine ⟨v, rfl, ?_, hK, fun x hx => ?_⟩
  · rw [h]; exact hS
  · rw [h] at hx; injection hx with hx; omega

set_option maxHeartbeats 4000000 in
set_option maxRecDepth 100000 in
theorem num_any (w W : World) (s r : ByteArray) (k : Bool) (hs : s.size ≤ 281474976710656) (hE : Env W) (hS : PSt w W r k) :
    Calls Tryd.prog 26 #[.string s, .pointer (some ⟨w.heap.size + 2, 0, none⟩)] W (NumPost w W s.data.toList r k) := by
  have HS := Lib.hid hS
  have HE := Lib.hid hE
  by_cases hok : ∃ v, Lib.atoiAll s.data.toList = .ok v
  · obtain ⟨v, ha⟩ := hok
    have hb := atoi_bounds ha
    have HA := Lib.hid (fun X => atoi_ok_any s v X hs ha)
    have hv : ∀ x, numP s.data.toList = some x → v = x := fun x hx => by
      have := atoi_num hx
      rw [ha] at this
      injection this
    have HV := Lib.hid hv
    clear hv hS hE
    cases k with
    | false =>
      go_enter Tryd.func26, Tryd.ntmps26
      go_wp2_with (first | (go_at_call 27; refine (HA.out _).mono ?_; rintro e w1 ⟨rfl, hx⟩; have hS1 := HS.out.mono hx; have c3 := hS1.ok; have c5 := hS1.fok))
      go_ret
      exact numpost_no (.inl rfl) (hS1.setOk _) ((Keep.ext hx).setOk _) HV.out
    | true =>
      by_cases h3 : s.size ≤ 3
      · obtain ⟨S, hSS⟩ : ∃ S : ByteArray, S = ⟨(Lib.itoa v).toArray⟩ := ⟨_, rfl⟩
        have HI := Lib.hid (fun X (hX : Ext W X) => itoa_int v S X hb.1 hb.2 hSS (HE.out.ext hX).tab)
        have hl3 : s.data.toList.length ≤ 3 := by simpa using h3
        by_cases hEq : S = s
        · subst hEq
          have hit : Lib.itoa v = S.data.toList := by rw [hSS]
          clear hSS
          by_cases hp : 0 ≤ v
          · have hn := numP_of hl3 hit hp
            have HN := Lib.hid hn
            clear hn hit ha
            go_enter Tryd.func26, Tryd.ntmps26
            go_wp2_with (first | (go_at_call 27; refine (HA.out _).mono ?_; rintro e w1 ⟨rfl, hx⟩; have hS1 := HS.out.mono hx; have c3 := hS1.ok; have c5 := hS1.fok) | (go_at_call 19; refine (HI.out _ hx).mono ?_; rintro e w2 ⟨rfl, hx2⟩; have hS2 := hS1.mono hx2; have c6 := hS2.ok; have c7 := hS2.fok))
            go_ret
            exact numpost_yes HN.out (hS2.setOk _) (((Keep.ext hx).trans (Keep.ext hx2)).setOk _) hp
          · have hn : numP S.data.toList = none := num_none fun x hx => hp (by have := HV.out x hx; omega)
            have HN := Lib.hid hn
            have hpd : decide (0 ≤ v) = false := decide_eq_false hp
            clear hn hit ha hp
            go_enter Tryd.func26, Tryd.ntmps26
            go_wp2_with (first | (go_at_call 27; refine (HA.out _).mono ?_; rintro e w1 ⟨rfl, hx⟩; have hS1 := HS.out.mono hx; have c3 := hS1.ok; have c5 := hS1.fok) | (go_at_call 19; refine (HI.out _ hx).mono ?_; rintro e w2 ⟨rfl, hx2⟩; have hS2 := hS1.mono hx2; have c6 := hS2.ok; have c7 := hS2.fok))
            go_ret
            exact numpost_no (.inr HN.out) (hS2.setOk _) (((Keep.ext hx).trans (Keep.ext hx2)).setOk _) HV.out
        · have hn : numP s.data.toList = none := num_none fun x hx => hEq (by
            have h1 := (numP_some hx).1
            have h2 := HV.out x hx
            rw [hSS, h2, itoa_nat, h1])
          have HN := Lib.hid hn
          have hne : (S.toList == s.toList) = false := by
            rw [beq_eq_false_iff_ne]
            intro e
            exact hEq (by rw [ByteArray.toList_eq, ByteArray.toList_eq] at e; exact ByteArray.ext (Array.toList_inj.1 e))
          clear hn hSS ha
          go_enter Tryd.func26, Tryd.ntmps26
          go_wp2_with (first | (go_at_call 27; refine (HA.out _).mono ?_; rintro e w1 ⟨rfl, hx⟩; have hS1 := HS.out.mono hx; have c3 := hS1.ok; have c5 := hS1.fok) | (go_at_call 19; refine (HI.out _ hx).mono ?_; rintro e w2 ⟨rfl, hx2⟩; have hS2 := hS1.mono hx2; have c6 := hS2.ok; have c7 := hS2.fok))
          go_ret
          exact numpost_no (.inr HN.out) (hS2.setOk _) (((Keep.ext hx).trans (Keep.ext hx2)).setOk _) HV.out
      · have hn : numP s.data.toList = none := num_none fun x hx => h3 (by have := (numP_some hx).2.2.1; simpa using this)
        have HN := Lib.hid hn
        clear hn ha
        go_enter Tryd.func26, Tryd.ntmps26
        go_wp2_with (first | (go_at_call 27; refine (HA.out _).mono ?_; rintro e w1 ⟨rfl, hx⟩; have hS1 := HS.out.mono hx; have c3 := hS1.ok; have c5 := hS1.fok))
        go_ret
        exact numpost_no (.inr HN.out) (hS1.setOk _) ((Keep.ext hx).setOk _) HV.out
  · have hn : numP s.data.toList = none := num_none fun x hx => hok ⟨x, atoi_num hx⟩
    have HN := Lib.hid hn
    have HA := Lib.hid (fun X (hX : Ext W X) => atoi_bad_any s X hs (HE.out.ext hX) (fun v h => hok ⟨v, h⟩))
    clear hn hok hS hE
    cases k with
    | false =>
      go_enter Tryd.func26, Tryd.ntmps26
      go_wp2_with (first | (go_at_call 27; refine (HA.out _ (Ext.refl _)).mono ?_; rintro e w1 ⟨v, N, rfl, hx⟩; have hS1 := HS.out.mono hx; have c3 := hS1.ok; have c5 := hS1.fok))
      go_ret
      exact numpost_no (.inl rfl) (hS1.setOk _) ((Keep.ext hx).setOk _) (fun x hx => by rw [HN.out] at hx; cases hx)
    | true =>
      go_enter Tryd.func26, Tryd.ntmps26
      go_wp2_with (first | (go_at_call 27; refine (HA.out _ (Ext.refl _)).mono ?_; rintro e w1 ⟨v, N, rfl, hx⟩; have hS1 := HS.out.mono hx; have c3 := hS1.ok; have c5 := hS1.fok))
      go_ret
      exact numpost_no (.inr HN.out) (hS1.setOk _) ((Keep.ext hx).setOk _) (fun x hx => by rw [HN.out] at hx; cases hx)
end Go.Proofs.YtbfogchdeijedaaDoor
