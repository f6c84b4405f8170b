/- The reference's Kind, Name, Ints. -/
import Derived.Test.YtnpenepdechkjaaGreatDoorKi
import Derived.Test.YtnpenepdechkjaaGreatDoorKe
import Derived.Test.YtnpenepdechkjaaGreatDoorQr
namespace Go.Proofs.YtnpenepdechkjaaGreatDoor
open Go Go.RowKit

def kindsL : List (List UInt8) := [[99, 108, 97, 105, 109], [97, 110, 115, 119, 101, 114], [109, 111, 116, 105, 111, 110], [111, 114, 100, 101, 114], [97, 112, 112, 101, 97, 108], [108, 97, 112, 115, 101]]
theorem kindsL_ok : ∀ s ∈ kindsL, NmOK s := by
 intro s hs
 simp only [kindsL, List.mem_cons, List.not_mem_nil, or_false] at hs
 rcases hs with rfl | rfl | rfl | rfl | rfl | rfl <;> exact ⟨⟨by decide, by decide, rfl⟩, by decide⟩
def namesL : List (List UInt8) := [[114, 48], [114, 49], [114, 50], [114, 51], [114, 101, 112, 108, 121], [120, 49], [97, 98, 99, 100, 101, 102, 103, 104, 105, 106, 107, 57]]
theorem namesL_ok : ∀ s ∈ namesL, NmOK s := by
 intro s hs
 simp only [namesL, List.mem_cons, List.not_mem_nil, or_false] at hs
 rcases hs with rfl | rfl | rfl | rfl | rfl | rfl | rfl <;> exact ⟨⟨by decide, by decide, rfl⟩, by decide⟩
theorem kind_any (k : Nat) (hk : k < 100) (W : World) : Calls Tryz.prog 45 #[.int .i64 k] W (fun e W' => ∃ s : List UInt8, s ∈ kindsL ∧ e = .returned (.string (bs s)) ∧ Ext W W') := by
 obtain ⟨j, hj, hj6⟩ := around_nat (k : Int) 6 (by decide)
 have HAR := Lib.hid (fun X => (show Calls Tryz.prog 94 #[.int .i64 k, .int .i64 6] X (fun e X' => e = .returned (.int .i64 j) ∧ X = X') from by
  have h9 := around_fn (k : Int) 6 X (by omega) (by omega) (by decide) (by decide)
  have hj' : arnd (k : Int) 6 = (j : Int) := hj
  rw [hj'] at h9; exact h9))
 obtain ⟨s, hs⟩ : ∃ s, kindsL[j]? = some s := ⟨_, List.getElem?_eq_getElem (by simpa [kindsL] using hj6)⟩
 have HS := Lib.hid (List.mem_of_getElem? hs)
 have hsr := SR.new W kindsL #[.string ⟨#[99, 108, 97, 105, 109]⟩, .string ⟨#[97, 110, 115, 119, 101, 114]⟩, .string ⟨#[109, 111, 116, 105, 111, 110]⟩, .string ⟨#[111, 114, 100, 101, 114]⟩, .string ⟨#[97, 112, 112, 101, 97, 108]⟩, .string ⟨#[108, 97, 112, 115, 101]⟩] rfl
 have q0 := hsr.at_ j s hs
 obtain ⟨S, hS⟩ : ∃ S, S = bs s := ⟨_, rfl⟩
 rw [← hS] at q0
 have HSS := Lib.hid hS
 have hjI : (j : Int) < 6 := by omega
 have hx : Ext W (W.alloc (.cells #[.string ⟨#[99, 108, 97, 105, 109]⟩, .string ⟨#[97, 110, 115, 119, 101, 114]⟩, .string ⟨#[109, 111, 116, 105, 111, 110]⟩, .string ⟨#[111, 114, 100, 101, 114]⟩, .string ⟨#[97, 112, 112, 101, 97, 108]⟩, .string ⟨#[108, 97, 112, 115, 101]⟩] 9)) := (Ext.refl _).alloc _
 have hgl := hsr.lt
 clear hS hs hj hsr
 go_enter Tryz.func45, Tryz.ntmps45
 go_upto_region 2 with (fail)
 generalize W.alloc (.cells #[.string ⟨#[99, 108, 97, 105, 109]⟩, .string ⟨#[97, 110, 115, 119, 101, 114]⟩, .string ⟨#[109, 111, 116, 105, 111, 110]⟩, .string ⟨#[111, 114, 100, 101, 114]⟩, .string ⟨#[97, 112, 112, 101, 97, 108]⟩, .string ⟨#[108, 97, 112, 115, 101]⟩] 9) = w1 at *
 have HX := Lib.hid hx
 clear hx
 go_wp2_with (first | (go_at_call 94; refine (HAR.out _).mono ?_; rintro e w2 ⟨rfl, rfl⟩))
 go_ret
 exact ⟨s, HS.out, congrArg (fun z => Ending.returned (.string z)) HSS.out, HX.out⟩
theorem name_any (k : Nat) (hk : k < 100) (W : World) : Calls Tryz.prog 97 #[.int .i64 k] W (fun e W' => ∃ s : List UInt8, s ∈ namesL ∧ e = .returned (.string (bs s)) ∧ Ext W W') := by
 obtain ⟨j, hj, hj4⟩ := around_nat (k : Int) 4 (by decide)
 have HAR := Lib.hid (fun X => (show Calls Tryz.prog 94 #[.int .i64 k, .int .i64 4] X (fun e X' => e = .returned (.int .i64 j) ∧ X = X') from by
  have h9 := around_fn (k : Int) 4 X (by omega) (by omega) (by decide) (by decide)
  have hj' : arnd (k : Int) 4 = (j : Int) := hj
  rw [hj'] at h9; exact h9))
 have hdl : Lib.decDigits j = [dg j] := dec_one (by omega)
 have HD := Lib.hid (fun X => dec59_any j X (by omega))
 rw [hdl] at HD
 obtain ⟨S, hS⟩ : ∃ S : ByteArray, S = ⟨[dg j].toArray⟩ := ⟨_, rfl⟩
 rw [← hS] at HD
 have hSs : S.size = 1 := by rw [hS]; rfl
 have q0 : ¬ 9223372036854775807 < 1 + S.size := by omega
 have HF := Lib.hid (show [114, dg j] ∈ namesL ∧ (⟨#[114]⟩ ++ S : ByteArray) = bs [114, dg j] from ⟨by
  rcases (by omega : j = 0 ∨ j = 1 ∨ j = 2 ∨ j = 3) with rfl | rfl | rfl | rfl <;> decide, by apply ByteArray.ext; rw [hS]; simp⟩)
 clear hS hSs hj hdl
 go_enter Tryz.func97, Tryz.ntmps97
 go_wp2_with (first
  | (go_at_call 94; refine (HAR.out _).mono ?_; rintro e w2 ⟨rfl, rfl⟩)
  | (go_at_call 59; refine (HD.out _).mono ?_; rintro e w3 ⟨rfl, rfl⟩))
 go_ret
 exact ⟨_, HF.out.1, congrArg (fun z => Ending.returned (.string z)) HF.out.2, Ext.refl _⟩
theorem info3 : (Tryz.prog.info? 3).map (fun i => (i.zero, i.size, i.bytes)) = some (some (.int .i64 0), 1, 8) := by kernel_rfl
theorem icf_len (n : Int) : (icf n).length = 1 := rfl
theorem icf_one (n : Int) : ∀ u ∈ icf n, u.oneCell' = true := fun u hu => by
 simp only [icf, List.mem_cons, List.not_mem_nil, or_false] at hu
 rw [hu]; rfl
set_option maxRecDepth 100000 in
theorem ints_any (A : Option Addr) (c : Nat) (l : List Int) (most : Nat) (w : World) (hm : most ≤ 1000) (hc : l.length ≤ c) (hc2 : c ≤ 9223372036854775807) (h : SL icf 1 w A l.length l) :
  Calls Tryz.prog 43 #[.slice A l.length c, .int .i64 most] w (fun e W' => ∃ A' c', e = .returned (.slice A' (min l.length most) c') ∧ SL icf 1 W' A' (min l.length most) (l.take (min l.length most)) ∧ Ext w W') := by
 obtain ⟨m, hmm⟩ : ∃ m, m = min l.length most := ⟨_, rfl⟩
 rw [← hmm]
 have hm1 : m ≤ l.length := by omega
 have hmI : min (l.length : Int) (most : Int) = (m : Int) := by omega
 have hmI1 : (m : Int) ≤ (l.length : Int) := by omega
 have hmc : (m : Int) ≤ (c : Int) := by omega
 have hs := h.takeN m hm1
 have hlm : (l.take m).length = m := by rw [List.length_take]; omega
 obtain ⟨A', c', w', r1, r2, r3, r4, r5⟩ := run_append_src5 (P := Tryz.prog) (t := 35) (e := 3) (size := 1) (bytes := 8) (w := w) (base := w.heap.size) Tryz.underlying35 info3 rfl (by omega) (World.ownsRow_nil w w.heap.size 3 1) (A := A) (m := m) (c := c) (news := gcells icf (l.take m)) (by rw [gcells_len icf_len, hlm])
  (fun h0 => by
   obtain ⟨b, off, e, hb, hcc⟩ := hs.2 h0
   refine ⟨b, off, e, fun j u hu => ?_⟩
   have hj : j < (l.take m).length := by
    have := (List.getElem?_eq_some_iff.1 hu).1
    rw [gcells_len icf_len] at this; omega
   have h9 := gcells_at icf_len (l.take m) j _ (List.getElem?_eq_getElem hj) 0 (by omega)
   rw [Nat.mul_one, Nat.add_zero, hu] at h9
   have h8 := hcc j _ (List.getElem?_eq_getElem hj) 0 u h9.symm
   simpa using h8)
  (gcells_one icf_one _) (by simp [maxLen]; omega) (by omega) (Nat.le_refl _)
 have HR := Lib.hid (show (Builtin.append_ #[35, 35] 35 #[.slice none 0 0, .slice A m c]).run Tryz.prog w = .ok (.slice A' m c') w' from by rw [Nat.zero_add] at r1; exact r1)
 have HO := Lib.hid (show OL icf 1 w' w.heap.size 3 (.slice A' m c') (l.take m) from by
  unfold OL
  rw [Nat.zero_add, List.nil_append] at r2
  rw [hlm]; exact r2)
 have HX := Lib.hid (r3 w.heap.size (Nat.le_refl _))
 clear r1 r2 r3 r4 r5 hs h hmm
 go_enter Tryz.func43, Tryz.ntmps43
 go_wp2_with (first | (refine wpList_append_run (s := .tmp 6) (x := .tmp 12) HR.out rfl rfl rfl rfl rfl ?_))
 go_ret
 obtain ⟨A9, c9, e9, _, hs9⟩ := OL.form icf_len HO.out
 rw [hlm] at e9 hs9
 injection e9 with e9 _ e9'
 subst e9 e9'
 exact ⟨A', c', rfl, hs9, HX.out⟩
end Go.Proofs.YtnpenepdechkjaaGreatDoor
