/- What Print prints is parsed as the rules; what Show shows as the tree. -/
import Derived.Test.YtnpenepdechkjaaGreatDoorQo
import Derived.Test.YtnpenepdechkjaaGreatDoorQr
import Derived.Test.YtnpenepdechkjaaGreatDoorMf
namespace Go.Proofs.YtnpenepdechkjaaGreatDoor
open Go

theorem show_ne {t : Tr} (h : GT t) : showT t ≠ [] := by
 cases h with
 | num n h =>
  rw [show showT (.nd 1 n [] []) = Lib.itoa n by simp [showT, showN]]
  obtain ⟨m, rfl⟩ := Int.eq_ofNat_of_zero_le h.1
  rw [itoa_nat]
  exact (dec_all m m (Nat.le_refl _)).2.2.1
 | bool n h =>
  rw [show showT (.nd 2 n [] []) = if n = 1 then wTrue else wFalse by simp [showT, showN]]
  split <;> decide
 | day n h => rw [show showT (.nd 3 n [] []) = 64 :: prL n.toNat by simp [showT, showN]]; simp
 | field s h => rw [show showT (.nd 4 0 s []) = s by simp [showT, showN]]; exact (words_ok s (res_of (.inr (.inl h)))).2
 | una s a h ha =>
  by_cases hs : s = wNot
  ·simp [showT, showTs, showN, hs]
  ·simp [showT, showTs, showN, hs]
 | bin s a b h ha hb => simp [showT, showTs, showN]
 | aft k s a b hk h ha hb => rw [shw_aft _ _ _ _ hk]; simp
 | ite a b c ha hb hc => simp [showT, showTs, showN]
 | call1 s a h hs ha => simp [showT, showTs, showN]
 | call2 s a b h hs ha hb => simp [showT, showTs, showN]
/-! ### Parsing -/
theorem nm_len {s : List UInt8} (h : NmOK s) : s.length ≤ 12 := (word_nm (t := ⟨1, 0, s, 0⟩) h.1 rfl).2
theorem GQ.gr {x : Rl} (h : GQ x) (h1 : tsz x.if_ ≤ 100000) (h2 : tsz x.due ≤ 100000) : GR x := by
 have b1 := shB_tsz h.if_.gt
 have b2 := shB_tsz h.due.gt
 have n1 := nm_len h.nm
 have n2 := nm_len h.on_
 have n3 : x.unless_.length ≤ 12 := by rcases h.un with e | e; (rw [e]; simp); exact nm_len e
 have n4 : x.else_.length ≤ 12 := by rcases h.el with e | e; (rw [e]; simp); exact nm_len e
 exact ⟨h.fr, h.if_.gt, h.due.gt, by omega, by omega, by omega, by omega, by omega, by omega⟩
end Go.Proofs.YtnpenepdechkjaaGreatDoor
