/- The contracts of rollbookref18.last, wrong, Check. -/
import Derived.Test.YthjjdeabfnlbjaaValid
namespace Go.Proofs.Ythjjdeabfnlbjaa
open Go Go.RowKit

/-- What 'last' leaves: the last version of the entry, if there is one; nothing that was there has changed. -/
def LastPost (l : List Vr) (en : Int) (w : World) (e : Ending) (w' : World) : Prop :=
  ∃ (u : Vr) (b : Bool), e = .returned (.tuple #[.agg #[.int .i64 u.op, .bool u.st, .int .i64 u.fc.en, .string u.fc.kd, .int .i64 u.fc.day, .int .i64 u.fc.byy, .int .i64 u.fc.too, .int .i64 u.fc.am], .bool b]) ∧
    lastOf l en = (if b then some u else none) ∧ Ext w w'

set_option maxRecDepth 100000 in
set_option maxHeartbeats 400000 in
theorem last_any (A : Option Addr) (n c : Nat) (l : List Vr) (en : Int) (w : World) (hl : n ≤ 1000) (h : SV w w.heap.size A n l) :
    Calls Try.prog 41 #[.slice A n c, .int .i64 en] w (LastPost l en w) := by
  obtain rfl : l.length = n := h.1
  have HS := Lib.hid h; clear h
  go_enter Try.func41, Try.ntmps41
  go_wp2
  go_loop [6] (fun i => ∃ k : Nat, k ≤ l.length ∧ i = .int .i64 ((k : Int) - 1) ∧ ∀ j, k ≤ j → j < l.length → (vat l j).fc.en ≠ en) (fun i => (intOf i + 1).toNat)
  case atStart => exact ⟨l.length, Nat.le_refl _, rfl, fun j h1 h2 => by omega⟩
  case round =>
    obtain ⟨k, hk, rfl, hno⟩ := hrel
    have HN := Lib.hid hno; clear hno
    by_cases h0 : k = 0
    · subst h0
      have hf := lastOf_none (fun j hj => HN.out j (Nat.zero_le _) hj)
      have HF := Lib.hid hf; clear hf
      go_wp2
      refine bodyPost_ret (v := .tuple #[.agg #[.int .i64 0, .bool false, .int .i64 0, .string { data := #[] }, .int .i64 0, .int .i64 0, .int .i64 0, .int .i64 0], .bool false]) (by simp [results, Try.results41, go_sem]) rfl ?_
      exact ⟨default, false, rfl, HF.out, (Ext.refl _).alloc _⟩
    · obtain ⟨b, off, rfl, hb, c0, c1, c2, c3, c4, c5, c6, c7⟩ := SV.at_ HS.out (k := k - 1) (by omega)
      by_cases he : (vat l (k - 1)).fc.en = en
      · have hf := lastOf_hit (l := l) (k := k - 1) (by omega) (fun j h1 h2 => HN.out j (by omega) h2) he
        have HF := Lib.hid hf; clear hf
        have he' : ((vat l (k - 1)).fc.en == en) = true := by simpa using he
        clear he
        go_wp2
        refine bodyPost_ret (v := .tuple #[(vat l (k - 1)).val, .bool true]) (by simp [results, Try.results41, go_sem, Vr.val]) rfl ?_
        exact ⟨vat l (k - 1), true, rfl, HF.out, (Ext.refl _).alloc _⟩
      · have he' : ((vat l (k - 1)).fc.en == en) = false := by simpa using he
        have HE := Lib.hid he; clear he
        go_wp2
        exact ⟨⟨k - 1, by omega, by have : ((k - 1 : Nat) : Int) = (k : Int) - 1 := by omega
                                    rw [this], fun j h1 h2 => by
          by_cases hj : j = k - 1
          · subst hj; exact HE.out
          · exact HN.out j (by omega) h2⟩, by simp [intOf]; omega⟩
end Go.Proofs.Ythjjdeabfnlbjaa
