/- Sizes of printed trees. -/
import Derived.Test.YtnpenepdechkjaaGreatDoorMe
namespace Go.Proofs.YtnpenepdechkjaaGreatDoor
open Go

/-- Sizes. -/
theorem shB_tsz {t : Tr} (h : GT t) : shB t ≤ 60 * tsz t := by
 have hf : ∀ s ∈ fields, s.length ≤ 12 := by decide
 have hu : ∀ s ∈ units, s.length ≤ 12 := by decide
 have hc : ∀ s ∈ functions, s.length ≤ 12 := by decide
 have ho : ∀ s, 1 ≤ lvOf s → s.length ≤ 12 := fun s h => by
  unfold lvOf at h
  split at h
  ·rename_i e; rw [e]; decide
  split at h
  ·rename_i e; rw [e]; decide
  split at h
  ·rename_i e; exact (by decide : ∀ s ∈ cmpOps, s.length ≤ 12) s e
  split at h
  ·rename_i e; rcases e with e | e <;> rw [e] <;> decide
  split at h
  ·rename_i e; rw [e]; decide
  ·omega
 induction h with
 | num n h => simp [shB, shBs, tsz, tszs]
 | bool n h => simp [shB, shBs, tsz, tszs]
 | day n h => simp [shB, shBs, tsz, tszs]
 | field s h => have := hf s h; simp only [shB, shBs, tsz, tszs]; omega
 | una s a h ha iha =>
  have : s.length ≤ 12 := by rcases h with rfl | rfl <;> decide
  simp only [shB, shBs, tsz, tszs]; omega
 | bin s a b h ha hb iha ihb => have := ho s h; simp only [shB, shBs, tsz, tszs]; omega
 | aft k s a b hk h ha hb iha ihb => have := hu s h; simp only [shB, shBs, tsz, tszs]; omega
 | ite a b c ha hb hc iha ihb ihc => simp only [shB, shBs, tsz, tszs, List.length_nil]; omega
 | call1 s a h hs ha iha => have := hc s h; simp only [shB, shBs, tsz, tszs]; omega
 | call2 s a b h hs ha hb iha ihb => have := hc s h; simp only [shB, shBs, tsz, tszs]; omega
end Go.Proofs.YtnpenepdechkjaaGreatDoor
