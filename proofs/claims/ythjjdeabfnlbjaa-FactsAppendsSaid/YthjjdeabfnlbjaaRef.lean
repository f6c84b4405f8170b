/- The contracts of the reference's until, History and Without. -/
import Derived.Test.YthjjdeabfnlbjaaKnown
import Derived.Test.YthjjdeabfnlbjaaSame
import Derived.Test.YthjjdeabfnlbjaaPlain6
namespace Go.Proofs.Ythjjdeabfnlbjaa
open Go Go.RowKit

def UntilPost (l : List Vr) (op : Int) (A : Option Addr) (c : Nat) (w : World) (e : Ending) (w' : World) : Prop :=
  ∃ k : Nat, k ≤ l.length ∧ e = .returned (.slice A k c) ∧ (∀ j, j < k → (vat l j).op ≤ op) ∧ (k < l.length → op < (vat l k).op) ∧ w = w'
theorem until_any (A : Option Addr) (n c : Nat) (l : List Vr) (op : Int) (w : World) (hl : n ≤ 1000) (hc : n ≤ c) (h : SV w w.heap.size A n l) :
    Calls Try.prog 40 #[.slice A n c, .int .i64 op] w (UntilPost l op A c w) := by
  obtain rfl : l.length = n := h.1
  have HS := Lib.hid h; clear h
  go_enter Try.func40, Try.ntmps40
  go_wp2
  go_loop [5] (fun i => ∃ k : Nat, k ≤ l.length ∧ i = .int .i64 k ∧ ∀ j, j < k → (vat l j).op ≤ op) (fun i => l.length - (intOf i).toNat)
  case atStart => exact ⟨0, Nat.zero_le _, rfl, fun j h => by omega⟩
  case round =>
    obtain ⟨k, hk, rfl, hall⟩ := hrel
    have HA := Lib.hid hall; clear hall
    have hkc : (k : Int) ≤ c := by omega
    by_cases hlt : k < l.length
    · have hlt' : (k : Int) < l.length := by omega
      obtain ⟨b, off, rfl, hb, c0, c1, c2, c3, c4, c5, c6, c7⟩ := SV.at_ HS.out (k := k) hlt
      by_cases hop : (vat l k).op ≤ op
      · have HO := Lib.hid hop
        go_wp2
        exact ⟨⟨k + 1, by omega, by go_num, fun j h => (by
          by_cases e : j = k
          · subst e; exact HO.out
          · exact HA.out j (by omega))⟩, by simp [intOf]; omega⟩
      · have hd : decide ((vat l k).op ≤ op) = false := decide_eq_false hop
        have HO := Lib.hid hop; clear hop
        go_wp2
        go_ret
        exact ⟨k, hk, rfl, HA.out, fun _ => (by have := HO.out; omega), rfl⟩
    · obtain rfl : k = l.length := by omega
      go_wp2
      go_ret
      exact ⟨l.length, hk, rfl, HA.out, fun h => absurd h (Nat.lt_irrefl _), rfl⟩

theorem vtake_succ {l : List Vr} {k : Nat} (h : k < l.length) (p : Vr → Bool) : (l.take (k + 1)).filter p = (l.take k).filter p ++ (if p (vat l k) then [vat l k] else []) := by
  rw [take_vat h, List.filter_append]
  by_cases e : p (vat l k) = true <;> simp [e]
theorem take_fat {l : List Fc} {k : Nat} (h : k < l.length) : l.take (k + 1) = l.take k ++ [fat l k] := by
  rw [List.take_succ_eq_append_getElem h]; simp [fat, h]
theorem ftake_succ {l : List Fc} {k : Nat} (h : k < l.length) (p : Fc → Bool) : (l.take (k + 1)).filter p = (l.take k).filter p ++ (if p (fat l k) then [fat l k] else []) := by
  rw [take_fat h, List.filter_append]
  by_cases e : p (fat l k) = true <;> simp [e]
theorem vfl_len (l : List Vr) (k : Nat) (p : Vr → Bool) : ((l.take k).filter p).length ≤ l.length := by
  refine Nat.le_trans (List.length_filter_le _ _) ?_
  simp; omega
theorem ffl_len (l : List Fc) (k : Nat) (p : Fc → Bool) : ((l.take k).filter p).length ≤ l.length := by
  refine Nat.le_trans (List.length_filter_le _ _) ?_
  simp; omega

set_option maxRecDepth 100000 in
set_option maxHeartbeats 1000000 in
theorem rhist_any (A : Option Addr) (n c : Nat) (l : List Vr) (en : Int) (w : World) (hl : n ≤ 1000) (h : SV w w.heap.size A n l) :
    Calls Try.prog 25 #[.slice A n c, .int .i64 en] w (HistPost l en w) := by
  obtain rfl : l.length = n := h.1
  have HS := Lib.hid h; clear h
  go_enter Try.func25, Try.ntmps25
  go_wp2
  go_loopw [5, 6] (fun o i wr => ∃ (k : Nat) (L : List Vr) (A' : Option Addr) (c' : Nat), k ≤ l.length ∧ o = .slice A' L.length c' ∧ i = .int .i64 k ∧ L = ((l.take k).filter fun v => !pEn en v) ∧ OV wr w.heap.size (.slice A' L.length c') L ∧ Ext w wr) (fun _ i _ => l.length - (intOf i).toNat)
  case atStart => exact ⟨0, [], none, 0, Nat.zero_le _, rfl, rfl, rfl, OV.nil _ _, Ext.refl _⟩
  case round =>
    obtain ⟨k, L, A', c', hk, rfl, rfl, hL, hown, hx⟩ := hrel
    have HL := Lib.hid hL
    have hll : L.length ≤ l.length := by rw [hL]; exact vfl_len _ _ _
    have HO := Lib.hid hown; clear hown hL
    by_cases hlt : k < l.length
    · have hlt' : (k : Int) < l.length := by omega
      obtain ⟨b, off, rfl, hb, c0, c1, c2, c3, c4, c5, c6, c7⟩ := SV.at_ (SV.lift HS.out (Nat.le_refl _) hx) (k := k) hlt
      by_cases he : (vat l k).fc.en = en
      · have hL2 : L ++ [vat l k] = ((l.take (k + 1)).filter fun v => !pEn en v) := by rw [vtake_succ hlt, HL.out]; simp [pEn, he]
        have HL2 := Lib.hid hL2; clear hL2
        have he' : ((vat l k).fc.en == en) = true := by simpa using he
        obtain ⟨A2, c2, w3, hrun, hown3, hb3, hk3⟩ := (HO.out.alloc (.cells #[.int .i64 (vat l k).op, .bool (vat l k).st, .int .i64 (vat l k).fc.en, .string (vat l k).fc.kd, .int .i64 (vat l k).fc.day, .int .i64 (vat l k).fc.byy, .int .i64 (vat l k).fc.too, .int .i64 (vat l k).fc.am] 32)).append (SV.one wr (vat l k) 32) 1 (by omega) (le_alloc hx.lt _)
        have hx3 : Ext w w3 := Below.trans (hx.alloc _) (hb3 _ (Nat.le_refl _))
        have hown4 : OV w3 w.heap.size (.slice A2 (L ++ [vat l k]).length c2) (L ++ [vat l k]) := by simpa using hown3
        have HO2 := Lib.hid hown4
        have HX := Lib.hid hx3
        clear hown3 hb3 hk3 hown4 hx3 he
        go_wp2_with (first | (at_builtin; refine wpList_append_run (s := .tmp 21) (x := .tmp 26) hrun rfl rfl rfl rfl rfl ?_))
        exact ⟨⟨k + 1, L ++ [vat l k], A2, c2, by omega, by simp, by go_num, HL2.out, HO2.out, HX.out⟩, by simp [intOf]; omega⟩
      · have hL2 : L = ((l.take (k + 1)).filter fun v => !pEn en v) := by rw [vtake_succ hlt, HL.out]; simp [pEn, he]
        have HL2 := Lib.hid hL2; clear hL2
        have he' : ((vat l k).fc.en == en) = false := by simpa using he
        have HE := Lib.hid he; clear he
        go_wp2
        exact ⟨⟨k + 1, L, A', c', by omega, rfl, by go_num, HL2.out, HO.out, hx⟩, by simp [intOf]; omega⟩
    · obtain rfl : k = l.length := by omega
      go_wp2
      go_ret
      exact ⟨L, A', c', rfl, by rw [HL.out, List.take_length], HO.out, hx⟩

def WoutPost (a b : List Fc) (w : World) (e : Ending) (w' : World) : Prop :=
  ∃ (m : List Fc) (A : Option Addr) (c : Nat), e = .returned (.slice A m.length c) ∧ m = wout a b ∧ OF w' w.heap.size (.slice A m.length c) m ∧ Ext w w'
set_option maxRecDepth 100000 in
set_option maxHeartbeats 1000000 in
theorem without_any (A A' : Option Addr) (n n' c c' : Nat) (a b : List Fc) (w : World) (hl : n ≤ 1000) (hl' : n' ≤ 1000) (h : SF w w.heap.size A n a) (h' : SF w w.heap.size A' n' b) :
    Calls Try.prog 28 #[.slice A n c, .slice A' n' c'] w (WoutPost a b w) := by
  obtain rfl : a.length = n := h.1
  obtain rfl : b.length = n' := h'.1
  have HS := Lib.hid h; clear h
  have HS' := Lib.hid h'; clear h'
  go_enter Try.func28, Try.ntmps28
  go_wp2
  go_loopw [5, 6] (fun o i wr => ∃ (k : Nat) (L : List Fc) (A2 : Option Addr) (cc : Nat), k ≤ a.length ∧ o = .slice A2 L.length cc ∧ i = .int .i64 k ∧ L = ((a.take k).filter fun f => decide (f ∉ b)) ∧ OF wr w.heap.size (.slice A2 L.length cc) L ∧ Ext w wr) (fun _ i _ => a.length - (intOf i).toNat)
  case atStart => exact ⟨0, [], none, 0, Nat.zero_le _, rfl, rfl, rfl, OF.nil _ _, Ext.refl _⟩
  case round =>
    obtain ⟨k, L, A2, cc, hk, rfl, rfl, hL, hown, hx⟩ := hrel
    have HL := Lib.hid hL
    have hll : L.length ≤ a.length := by rw [hL]; exact ffl_len _ _ _
    have HO := Lib.hid hown; clear hown hL
    by_cases hlt : k < a.length
    · have hlt' : (k : Int) < a.length := by omega
      go_wp2
      go_loopw [7, 8] (fun f i wx => ∃ (j : Nat), j ≤ b.length ∧ f = .bool (decide (fat a k ∈ b.take j)) ∧ i = .int .i64 j ∧ OF wx w.heap.size (.slice A2 L.length cc) L ∧ Ext w wx) (fun _ i _ => b.length - (intOf i).toNat)
      case atStart => exact ⟨0, Nat.zero_le _, by simp, rfl, HO.out, hx⟩
      case round =>
        clear HO hx
        obtain ⟨j, hj, rfl, rfl, hown, hx⟩ := hrel
        have HO := Lib.hid hown; clear hown
        obtain ⟨b1, off, rfl, hb, c0, c1, c2, c3, c4, c5⟩ := SF.at_ (SF.lift HS.out (Nat.le_refl _) hx) (k := k) hlt
        by_cases hlt2 : j < b.length
        · have hlt3 : (j : Int) < b.length := by omega
          obtain ⟨b', off', rfl, hb', d0, d1, d2, d3, d4, d5⟩ := SF.at_ (SF.lift HS'.out (Nat.le_refl _) hx) (k := j) hlt2
          have hstep : (decide (fat a k ∈ b.take (j + 1))) = (decide (fat a k ∈ b.take j) || decide (fat a k = fat b j)) := by
            rw [take_fat hlt2]; by_cases e1 : fat a k ∈ b.take j <;> by_cases e2 : fat a k = fat b j <;> simp [e1, e2]
          have HST := Lib.hid hstep; clear hstep
          have hcmp := fun W => eqF (fat a k) (fat b j) W
          cases hf : decide (fat a k ∈ b.take j)
          · rw [hf] at HST
            cases hd : decide (fat a k = fat b j)
            · rw [hd] at hcmp HST
              clear hf hd
              go_wp2
              go_quiet (fail)
              go_wp2
              exact ⟨⟨j + 1, by omega, by rw [HST.out]; rfl, by go_num, HO.out, hx.drewN _⟩, by simp [intOf]; omega⟩
            · rw [hd] at hcmp HST
              clear hf hd
              go_wp2
              go_quiet (fail)
              go_wp2
              exact ⟨⟨j + 1, by omega, by rw [HST.out]; rfl, by go_num, HO.out, hx.drewN _⟩, by simp [intOf]; omega⟩
          · rw [hf] at HST
            clear hf hcmp
            go_wp2
            go_quiet (fail)
            go_wp2
            exact ⟨⟨j + 1, by omega, by rw [HST.out]; rfl, by go_num, HO.out, hx.drewN _⟩, by simp [intOf]; omega⟩
        · obtain rfl : j = b.length := by omega
          cases hf : decide (fat a k ∈ b.take b.length)
          · have hin : fat a k ∉ b := by simpa using hf
            have hL2 : L ++ [fat a k] = ((a.take (k + 1)).filter fun f => decide (f ∉ b)) := by rw [ftake_succ hlt, HL.out]; simp [hin]
            have HL2 := Lib.hid hL2; clear hL2
            obtain ⟨A5, c5', w3, hrun, hown3, hb3, hk3⟩ := (HO.out.alloc (.cells #[.int .i64 (fat a k).en, .string (fat a k).kd, .int .i64 (fat a k).day, .int .i64 (fat a k).byy, .int .i64 (fat a k).too, .int .i64 (fat a k).am] 30)).append (SF.one wr (fat a k) 30) 1 (by omega) (le_alloc hx.lt _)
            have hx3 : Ext w w3 := Below.trans (hx.alloc _) (hb3 _ (Nat.le_refl _))
            have hown4 : OF w3 w.heap.size (.slice A5 (L ++ [fat a k]).length c5') (L ++ [fat a k]) := by simpa using hown3
            have HO2 := Lib.hid hown4
            have HX := Lib.hid hx3
            clear hown3 hb3 hk3 hown4 hx3 hf hin
            go_wp2_with (first | (at_builtin; refine wpList_append_run (s := .tmp 35) (x := .tmp 40) hrun rfl rfl rfl rfl rfl ?_))
            exact ⟨⟨k + 1, L ++ [fat a k], A5, c5', by omega, by simp, by go_num, HL2.out, HO2.out, HX.out⟩, by simp [intOf]; omega⟩
          · have hin : fat a k ∈ b := by simpa using hf
            have hL2 : L = ((a.take (k + 1)).filter fun f => decide (f ∉ b)) := by rw [ftake_succ hlt, HL.out]; simp [hin]
            have HL2 := Lib.hid hL2; clear hL2
            clear hf hin
            go_wp2
            exact ⟨⟨k + 1, L, A2, cc, by omega, rfl, by go_num, HL2.out, HO.out, hx⟩, by simp [intOf]; omega⟩
    · obtain rfl : k = a.length := by omega
      go_wp2
      go_ret
      exact ⟨L, A2, cc, rfl, by rw [HL.out, List.take_length]; rfl, HO.out, hx⟩
end Go.Proofs.Ythjjdeabfnlbjaa
