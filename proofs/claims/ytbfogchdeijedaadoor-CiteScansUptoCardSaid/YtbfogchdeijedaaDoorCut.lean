/- strings.Cut at a separator of one byte, however long the string is. -/
import Derived.Test.YtbfogchdeijedaaDoorTxt
import Derived.Lib.CutLaws
import Derived.IntWalk
namespace Go.Proofs.YtbfogchdeijedaaDoor
open Go Go.RowKit

theorem lcut1_any (s : ByteArray) (hs : s.size ≤ 281474976710656) (w : World) :
    Calls Tryd.prog 42 #[.string s, .string ⟨#[47]⟩] w fun e w' => e = .returned (.tuple #[.string ⟨(Lib.cut s.data.toList [47]).1.toArray⟩, .string ⟨(Lib.cut s.data.toList [47]).2.1.toArray⟩, .bool (Lib.cut s.data.toList [47]).2.2]) ∧ ∃ n, w' = w.drewN n := by
  rcases Lib.indexB_cases s ⟨#[47]⟩ with hix | ⟨i, hix, hroom⟩
  · obtain ⟨e1, e2, e3⟩ := Lib.cutB_miss s ⟨#[47]⟩ hix
    have h1 : Lib.indexByte s.data.toList 47 = -1 := by rw [← Lib.index_one]; exact hix
    rw [e1, e2, e3]
    have H1 := Lib.hid h1
    clear hix e1 e2 e3 h1
    go_enter Tryd.func42, Tryd.ntmps42
    go_wp2_with (go_at_call 48; refine (Tryd.stringslite_Index_one s 47 _).mono ?_; rintro e w' ⟨rfl, rfl⟩; rw [H1.out])
    go_ret3
    exact ⟨rfl, 0, rfl⟩
  · obtain ⟨e1, e2, e3⟩ := Lib.cutB_hit s ⟨#[47]⟩ i hix
    have h1 : Lib.indexByte s.data.toList 47 = i := by rw [← Lib.index_one]; exact hix
    have hr : i + 1 ≤ s.size := hroom
    rw [e1, e2, e3]
    have H1 := Lib.hid h1
    have c1 : (0 : Int) ≤ ↑i := by omega
    have c2 : (↑i : Int) ≤ ↑s.size := by omega
    have c3 : (0 : Int) ≤ ↑i + 1 := by omega
    have c4 : (↑i + 1 : Int) ≤ ↑s.size := by omega
    have hw1 : IntKind.i64.wrap ((i : Int) + 1) = (i : Int) + 1 := IntWalk.i64_in _ (by omega)
    have hn1 : ((i : Int) + 1).toNat = i + 1 := by omega
    clear hix e1 e2 e3 h1 hroom
    go_enter Tryd.func42, Tryd.ntmps42
    go_wp2_with (go_at_call 48; refine (Tryd.stringslite_Index_one s 47 _).mono ?_; rintro e w' ⟨rfl, rfl⟩; rw [H1.out])
    go_region
    go_wp2
    go_ret3
    exact ⟨rfl, _, rfl⟩
/-- What a cut at the slash gives. -/
def CutIs (s : ByteArray) (a b : List UInt8) (f : Bool) : Prop := Lib.cut s.data.toList [47] = (a, b, f)
theorem cut1_any (s : ByteArray) (hs : s.size ≤ 281474976710656) (w : World) (a b : List UInt8) (f : Bool) (h : CutIs s a b f) :
    Calls Tryd.prog 25 #[.string s, .string ⟨#[47]⟩] w fun e w' => e = .returned (.tuple #[.string ⟨a.toArray⟩, .string ⟨b.toArray⟩, .bool f]) ∧ Ext w w' := by
  have HL := lcut1_any s hs
  rw [h] at HL
  have H := Lib.hid HL
  clear HL h
  go_enter Tryd.func25, Tryd.ntmps25
  go_wp2_with (go_at_call 42; refine (H.out _).mono ?_; rintro e w' ⟨rfl, n, rfl⟩)
  go_ret3
  exact ⟨rfl, (Ext.refl _).drewN _⟩
end Go.Proofs.YtbfogchdeijedaaDoor
