/- Plain lists, continued: what facts.present.add computes, and that it is what the reference says. -/
import Derived.Test.YthjjdeabfnlbjaaPlain
namespace Go.Proofs.Ythjjdeabfnlbjaa

def presOf (l : List Vr) (en : Int) : Bool := match lastOf l en with | some u => !u.st | none => false
def opOf (l : List Vr) (k : Nat) : Int := if k = 0 then 0 else (vat l (k - 1)).op
def addOf (P : Int → Bool) (v : Vr) (op0 : Int) : Int :=
  if v.op < 0 then 5
  else if v.st = false ∧ okF v.fc = false then 5
  else if v.st = true ∧ inB v.fc.en 0 65535 = false then 5
  else if v.op < op0 then 12
  else if v.st = true ∧ P v.fc.en = false then 3
  else 0

theorem addOf_eq (l : List Vr) (v : Vr) : addOf (presOf l) v (opOf l l.length) = wrongOf l v := by
  unfold addOf wrongOf
  by_cases h1 : v.op < 0
  · rw [if_pos h1, if_pos h1]
  rw [if_neg h1, if_neg h1]
  by_cases h2 : v.st = false ∧ okF v.fc = false
  · rw [if_pos h2, if_pos h2]
  rw [if_neg h2, if_neg h2]
  have h3 : (v.st = true ∧ inB v.fc.en 0 65535 = false) ↔ inB v.fc.en 0 65535 = false := by
    refine ⟨fun h => h.2, fun h => ⟨?_, h⟩⟩
    cases hs : v.st with
    | true => rfl
    | false =>
      exfalso; apply h2; refine ⟨hs, ?_⟩
      simp [okF, h]
  by_cases h4 : inB v.fc.en 0 65535 = false
  · rw [if_pos (h3.2 h4), if_pos h4]
  rw [if_neg (fun h => h4 (h3.1 h)), if_neg h4]
  have h5 : (v.op < opOf l l.length) ↔ (0 < l.length ∧ v.op < (vat l (l.length - 1)).op) := by
    unfold opOf
    by_cases h0 : l.length = 0
    · rw [if_pos h0]; omega
    · rw [if_neg h0]; exact ⟨fun h => ⟨by omega, h⟩, fun h => h.2⟩
  by_cases h6 : v.op < opOf l l.length
  · rw [if_pos h6, if_pos (h5.1 h6)]
  rw [if_neg h6, if_neg (fun h => h6 (h5.2 h))]
  have h7 : (presOf l v.fc.en = false) ↔ (match lastOf l v.fc.en with | some u => u.st | none => true) = true := by
    unfold presOf; cases lastOf l v.fc.en <;> simp
  by_cases h8 : v.st = true ∧ presOf l v.fc.en = false
  · rw [if_pos h8, if_pos ⟨h8.1, h7.1 h8.2⟩]
  · rw [if_neg h8, if_neg (fun h => h8 ⟨h.1, h7.2 h.2⟩)]
theorem opOf_take (l : List Vr) (k : Nat) (hk : k ≤ l.length) : opOf (l.take k) (l.take k).length = opOf l k := by
  unfold opOf
  rw [List.length_take, Nat.min_eq_left hk]
  by_cases h : k = 0
  · simp [h]
  · rw [if_neg h, if_neg h]
    have : vat (l.take k) (k - 1) = vat l (k - 1) := by simp [vat, show k - 1 < k by omega]
    rw [this]
theorem add_is_wrong (l : List Vr) (k : Nat) (hk : k ≤ l.length) : addOf (presOf (l.take k)) (vat l k) (opOf l k) = wrongOf (l.take k) (vat l k) := by
  rw [← addOf_eq, opOf_take l k hk]
theorem presOf_snoc (l : List Vr) (v : Vr) (en : Int) : presOf (l ++ [v]) en = if en = v.fc.en then !v.st else presOf l en := by
  unfold presOf
  rw [lastOf_snoc]
  by_cases h : v.fc.en = en
  · simp [h]
  · rw [if_neg h, if_neg (fun e => h e.symm)]
theorem presOf_step (l : List Vr) (k : Nat) (hk : k < l.length) : presOf (l.take (k + 1)) = fun en => if en = (vat l k).fc.en then !(vat l k).st else presOf (l.take k) en := by
  funext en; rw [take_vat hk, presOf_snoc]
end Go.Proofs.Ythjjdeabfnlbjaa
