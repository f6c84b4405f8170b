/- The functions on runes, and 'first': the length of the longest head of one kind. -/
import Derived.Test.YtbmcplnfamgpcaaDoorBase
namespace Go.Proofs.YtbmcplnfamgpcaaDoor
open Go Go.RowKit

def lowI (c : Int) : Bool := decide (97 ≤ c) && decide (c ≤ 122)
def digI (c : Int) : Bool := decide (48 ≤ c) && decide (c ≤ 57)
def nlI (c : Int) : Bool := !decide (c = 10)
def BQ (b : Bool) (w : World) (e : Ending) (w' : World) : Prop := e = .returned (.bool b) ∧ w' = w
theorem letter_any (c : Int) (w : World) : Calls Tryd.prog 30 #[.int .i32 c] w (BQ (lowI c) w) := by
  by_cases h1 : 97 ≤ c
  · by_cases h2 : c ≤ 122
    · have hf : lowI c = true := by simp [lowI, h1, h2]
      have HF := Lib.hid hf; clear hf
      go_enter Tryd.func30, Tryd.ntmps30
      go_wp2
      go_ret
      exact ⟨ret_bool (by rw [HF.out]), rfl⟩
    · have hf : lowI c = false := by simp [lowI, h2]
      have HF := Lib.hid hf; clear hf
      go_enter Tryd.func30, Tryd.ntmps30
      go_wp2
      go_ret
      exact ⟨ret_bool (by rw [HF.out]), rfl⟩
  · have hf : lowI c = false := by simp [lowI, h1]
    have HF := Lib.hid hf; clear hf
    go_enter Tryd.func30, Tryd.ntmps30
    go_wp2
    go_ret
    exact ⟨ret_bool (by rw [HF.out]), rfl⟩
theorem digit_any (c : Int) (w : World) : Calls Tryd.prog 32 #[.int .i32 c] w (BQ (digI c) w) := by
  by_cases h1 : 48 ≤ c
  · by_cases h2 : c ≤ 57
    · have hf : digI c = true := by simp [digI, h1, h2]
      have HF := Lib.hid hf; clear hf
      go_enter Tryd.func32, Tryd.ntmps32
      go_wp2
      go_ret
      exact ⟨ret_bool (by rw [HF.out]), rfl⟩
    · have hf : digI c = false := by simp [digI, h2]
      have HF := Lib.hid hf; clear hf
      go_enter Tryd.func32, Tryd.ntmps32
      go_wp2
      go_ret
      exact ⟨ret_bool (by rw [HF.out]), rfl⟩
  · have hf : digI c = false := by simp [digI, h1]
    have HF := Lib.hid hf; clear hf
    go_enter Tryd.func32, Tryd.ntmps32
    go_wp2
    go_ret
    exact ⟨ret_bool (by rw [HF.out]), rfl⟩
theorem nl_any (c : Int) (w : World) : Calls Tryd.prog 29 #[.int .i32 c] w (BQ (nlI c) w) := by
  by_cases h1 : c = 10
  · have hf : nlI c = false := by simp [nlI, h1]
    have HF := Lib.hid hf; clear hf
    subst h1
    go_enter Tryd.func29, Tryd.ntmps29
    go_wp2
    go_ret
    exact ⟨ret_bool (by rw [HF.out]), rfl⟩
  · have hf : nlI c = true := by simp [nlI, h1]
    have HF := Lib.hid hf; clear hf
    have h2 : (c != 10) = true := by simpa using h1
    go_enter Tryd.func29, Tryd.ntmps29
    go_wp2
    go_ret
    exact ⟨ret_bool (by rw [HF.out]), rfl⟩
theorem wc_any (c : Int) (w : World) : Calls Tryd.prog 47 #[.int .i32 c] w (BQ (lowI c || digI c) w) := by
  have HL := Lib.hid (fun X => letter_any c X)
  have HD := Lib.hid (fun X => digit_any c X)
  cases hl : lowI c with
  | true =>
    rw [hl] at HL
    clear hl
    go_enter Tryd.func47, Tryd.ntmps47
    go_wp2_with (first | (go_at_call 30; refine (HL.out _).mono ?_; rintro e w1 ⟨rfl, rfl⟩) | (go_at_call 32; refine (HD.out _).mono ?_; rintro e w1 ⟨rfl, rfl⟩))
    go_ret
    exact ⟨rfl, rfl⟩
  | false =>
    rw [hl] at HL
    clear hl
    cases hd : digI c with
    | true =>
      rw [hd] at HD
      clear hd
      go_enter Tryd.func47, Tryd.ntmps47
      go_wp2_with (first | (go_at_call 30; refine (HL.out _).mono ?_; rintro e w1 ⟨rfl, rfl⟩) | (go_at_call 32; refine (HD.out _).mono ?_; rintro e w1 ⟨rfl, rfl⟩))
      go_ret
      exact ⟨rfl, rfl⟩
    | false =>
      rw [hd] at HD
      clear hd
      go_enter Tryd.func47, Tryd.ntmps47
      go_wp2_with (first | (go_at_call 30; refine (HL.out _).mono ?_; rintro e w1 ⟨rfl, rfl⟩) | (go_at_call 32; refine (HD.out _).mono ?_; rintro e w1 ⟨rfl, rfl⟩))
      go_ret
      exact ⟨rfl, rfl⟩
/-- A test on runes and a test on bytes that say the same: on the runes below 128, and all above alike. -/
structure Kind (q : Int → Bool) (p : UInt8 → Bool) : Prop where
  lo : ∀ c : UInt8, c.toNat < 128 → q c.toNat = p c
  hi : ∀ (r : Nat) (c : UInt8), 128 ≤ r → 128 ≤ c.toNat → q r = p c
theorem kind_low : Kind lowI low :=
  ⟨fun c _ => by rw [lowI, low]; congr 1 <;> (apply decide_eq_decide.2; omega),
   fun r c h1 h2 => by
    rw [show lowI r = false by simp [lowI]; omega, show low c = false by simp [low]; omega]⟩
theorem kind_dig : Kind digI dig :=
  ⟨fun c _ => by rw [digI, dig]; congr 1 <;> (apply decide_eq_decide.2; omega),
   fun r c h1 h2 => by
    rw [show digI r = false by simp [digI]; omega, show dig c = false by simp [dig]; omega]⟩
theorem kind_wch : Kind (fun c => lowI c || digI c) wch :=
  ⟨fun c h => by show (_ || _) = (_ || _); rw [kind_low.lo c h, kind_dig.lo c h],
   fun r c h1 h2 => by show (_ || _) = (_ || _); rw [kind_low.hi r c h1 h2, kind_dig.hi r c h1 h2]⟩
def wchI (c : Int) : Bool := lowI c || digI c
theorem wcI_any (c : Int) (w : World) : Calls Tryd.prog 47 #[.int .i32 c] w (BQ (wchI c) w) := wc_any c w
theorem kind_wchI : Kind wchI wch := kind_wch
def nlB (c : UInt8) : Bool := !decide (c = 10)
theorem kind_nl : Kind nlI nlB :=
  ⟨fun c _ => by
    rw [nlI, nlB]; congr 1; apply decide_eq_decide.2
    constructor
    · intro h; exact UInt8.toNat_inj.1 (by have : (10 : UInt8).toNat = 10 := rfl; omega)
    · intro h; subst h; rfl,
   fun r c h1 h2 => by
    rw [show nlI r = true by simp [nlI]; omega, show nlB c = true by
      simp only [nlB, Bool.not_eq_true', decide_eq_false_iff_not]; intro h; subst h; exact absurd h2 (by decide)]⟩
def twn (p : UInt8 → Bool) (l : List UInt8) : Nat := (l.takeWhile p).length
theorem twn_stop {p : UInt8 → Bool} {c : UInt8} {r : List UInt8} (h : p c = false) : twn p (c :: r) = 0 := by simp [twn, h]
theorem twn_go {p : UInt8 → Bool} {c : UInt8} {r : List UInt8} (h : p c = true) : twn p (c :: r) = 1 + twn p r := by simp [twn, h]; omega
theorem twn_jump (p : UInt8 → Bool) (s : ByteArray) (n : Nat) : ∀ pos, (∀ j, pos ≤ j → j < pos + n → ∃ hj : j < s.size, p (s[j]'hj) = true) → twn p (s.data.toList.drop pos) = n + twn p (s.data.toList.drop (pos + n)) := by
  induction n with
  | zero => intro pos _; simp
  | succ n ih =>
    intro pos h
    obtain ⟨h1, h2⟩ := h pos (Nat.le_refl _) (by omega)
    rw [get_list s pos h1, twn_go h2, ih (pos + 1) (fun j a b => h j (by omega) (by omega)), show pos + 1 + n = pos + (n + 1) by omega]
    omega
def FRel (s : ByteArray) (p : UInt8 → Bool) (w w' : World) : Prop := ∃ pos, pos ≤ s.size ∧ pos + twn p (s.data.toList.drop pos) = twn p s.data.toList ∧ w' = w.alloc (.stringIter s pos)
def IntPost (n : Int) (w : World) (e : Ending) (w' : World) : Prop := e = .returned (.int .i64 n) ∧ Ext w w'
set_option maxHeartbeats 4000000 in
set_option maxRecDepth 100000 in
theorem first47_any (s : ByteArray) (w : World) (hs : s.size ≤ 281474976710656) :
    Calls Tryd.prog 28 #[.string s, .func (.func 47) #[] #[]] w (IntPost (twn wch s.data.toList) w) := by
  have HC := Lib.hid (fun (c : Int) X => (wcI_any c X : Calls Tryd.prog 47 #[.int .i32 c] X (BQ (wchI c) X)))
  have HK := Lib.hid kind_wchI
  go_enter Tryd.func28, Tryd.ntmps28
  go_wp2
  go_loopw [] (fun w' => FRel s wch w w') (fun w' => s.size - w'.iterPos w.heap.size)
  case atStart => exact ⟨0, by omega, by simp, rfl⟩
  case round =>
    obtain ⟨pos, hpos, hrl, rfl⟩ := hrel
    have HR := Lib.hid hrl
    clear hrl
    by_cases hp : pos < s.size
    · have hnx := fun ty => next_any w w.heap.size rfl s pos ty hp
      have hln := get_list s pos hp
      have HLN := Lib.hid hln
      clear hln
      by_cases ha : (s[pos]'hp).toNat < 128
      · have hd := decode_ascii s pos hp ha
        have hq := HK.out.lo _ ha
        obtain ⟨c, hcc⟩ : ∃ c : UInt8, c = s[pos]'hp := ⟨_, rfl⟩
        rw [← hcc] at hd hq HLN ha
        simp only [hd] at hnx
        clear hcc hd
        cases hb : wch c with
        | true =>
          have hcl := HC.out (c.toNat : Int)
          rw [hq, hb] at hcl
          have hfin : pos + 1 + twn wch (s.data.toList.drop (pos + 1)) = twn wch s.data.toList := by
            rw [← HR.out, HLN.out, twn_go hb]; omega
          have hme : s.size - (w.alloc (.stringIter s (pos + 1))).iterPos w.heap.size < s.size - (w.alloc (.stringIter s pos)).iterPos w.heap.size := by
            rw [iterPos_at _ _ rfl, iterPos_at _ _ rfl]; omega
          have HCL := Lib.hid hcl
          have HF := Lib.hid hfin
          have HM := Lib.hid hme
          clear hcl hfin hme hq hb HLN HR
          go_wp2_with (first | (go_at_call 47; refine (HCL.out _).mono ?_; rintro e w1 ⟨rfl, rfl⟩))
          exact ⟨⟨pos + 1, by omega, HF.out, rfl⟩, HM.out⟩
        | false =>
          have hcl := HC.out (c.toNat : Int)
          rw [hq, hb] at hcl
          have hfin : (pos : Int) = (twn wch s.data.toList : Nat) := by
            rw [← HR.out, HLN.out, twn_stop hb]; rfl
          have HCL := Lib.hid hcl
          have HF := Lib.hid hfin
          clear hcl hfin hq hb HLN HR
          go_wp2_with (first | (go_at_call 47; refine (HCL.out _).mono ?_; rintro e w1 ⟨rfl, rfl⟩))
          go_ret
          exact ⟨ret_int HF.out, (Ext.refl _).alloc _⟩
      · have hdh := decode_high s pos hp (by omega)
        have hdc := decode_cont s pos hp (by omega)
        have hqc := fun j (h1 : pos ≤ j) (h2 : j < pos + (Utf8.decode s pos).2) => (hdc j h1 h2).imp fun hj h => (HK.out.hi _ _ hdh.1 h).symm
        obtain ⟨r, hr⟩ : ∃ r, r = Utf8.decode s pos := ⟨_, rfl⟩
        rw [← hr] at hnx hdh hqc
        obtain ⟨r1, r2⟩ := r
        simp only at hdh hnx hqc
        clear hr hdc
        have hlast := (hqc (pos + r2 - 1) (by omega) (by omega)).1
        cases hb : wchI r1 with
        | true =>
          have hcl := HC.out (r1 : Int)
          rw [hb] at hcl
          have hfin : pos + r2 + twn wch (s.data.toList.drop (pos + r2)) = twn wch s.data.toList := by
            rw [← HR.out, twn_jump wch s r2 pos (fun j a b => (hqc j a b).imp fun hj h => by rw [h, hb])]; omega
          have hme : s.size - (w.alloc (.stringIter s (pos + r2))).iterPos w.heap.size < s.size - (w.alloc (.stringIter s pos)).iterPos w.heap.size := by
            rw [iterPos_at _ _ rfl, iterPos_at _ _ rfl]; omega
          have HCL := Lib.hid hcl
          have HF := Lib.hid hfin
          have HM := Lib.hid hme
          have hle : pos + r2 ≤ s.size := by omega
          clear hcl hfin hme hb HLN HR hqc hlast ha
          go_wp2_with (first | (go_at_call 47; refine (HCL.out _).mono ?_; rintro e w1 ⟨rfl, rfl⟩))
          exact ⟨⟨pos + r2, hle, HF.out, rfl⟩, HM.out⟩
        | false =>
          have hcl := HC.out (r1 : Int)
          rw [hb] at hcl
          have hfin : (pos : Int) = (twn wch s.data.toList : Nat) := by
            obtain ⟨_, h⟩ := hqc pos (Nat.le_refl _) (by omega)
            rw [← HR.out, HLN.out, twn_stop (by rw [h, hb])]; rfl
          have HCL := Lib.hid hcl
          have HF := Lib.hid hfin
          clear hcl hfin hb HLN HR hqc hlast ha
          go_wp2_with (first | (go_at_call 47; refine (HCL.out _).mono ?_; rintro e w1 ⟨rfl, rfl⟩))
          go_ret
          exact ⟨ret_int HF.out, (Ext.refl _).alloc _⟩
    · have hnx := fun ty => next_end w w.heap.size rfl s pos ty hp
      have hfin : (s.size : Int) = (twn wch s.data.toList : Nat) := by
        rw [← HR.out, drop_end s pos hp, show twn wch [] = 0 from rfl]; omega
      have HF := Lib.hid hfin
      clear hfin HR
      go_wp2
      go_ret
      exact ⟨ret_int HF.out, (Ext.refl _).alloc _⟩
set_option maxHeartbeats 4000000 in
set_option maxRecDepth 100000 in
theorem first32_any (s : ByteArray) (w : World) (hs : s.size ≤ 281474976710656) :
    Calls Tryd.prog 28 #[.string s, .func (.func 32) #[] #[]] w (IntPost (twn dig s.data.toList) w) := by
  have HC := Lib.hid (fun (c : Int) X => (digit_any c X : Calls Tryd.prog 32 #[.int .i32 c] X (BQ (digI c) X)))
  have HK := Lib.hid kind_dig
  go_enter Tryd.func28, Tryd.ntmps28
  go_wp2
  go_loopw [] (fun w' => FRel s dig w w') (fun w' => s.size - w'.iterPos w.heap.size)
  case atStart => exact ⟨0, by omega, by simp, rfl⟩
  case round =>
    obtain ⟨pos, hpos, hrl, rfl⟩ := hrel
    have HR := Lib.hid hrl
    clear hrl
    by_cases hp : pos < s.size
    · have hnx := fun ty => next_any w w.heap.size rfl s pos ty hp
      have hln := get_list s pos hp
      have HLN := Lib.hid hln
      clear hln
      by_cases ha : (s[pos]'hp).toNat < 128
      · have hd := decode_ascii s pos hp ha
        have hq := HK.out.lo _ ha
        obtain ⟨c, hcc⟩ : ∃ c : UInt8, c = s[pos]'hp := ⟨_, rfl⟩
        rw [← hcc] at hd hq HLN ha
        simp only [hd] at hnx
        clear hcc hd
        cases hb : dig c with
        | true =>
          have hcl := HC.out (c.toNat : Int)
          rw [hq, hb] at hcl
          have hfin : pos + 1 + twn dig (s.data.toList.drop (pos + 1)) = twn dig s.data.toList := by
            rw [← HR.out, HLN.out, twn_go hb]; omega
          have hme : s.size - (w.alloc (.stringIter s (pos + 1))).iterPos w.heap.size < s.size - (w.alloc (.stringIter s pos)).iterPos w.heap.size := by
            rw [iterPos_at _ _ rfl, iterPos_at _ _ rfl]; omega
          have HCL := Lib.hid hcl
          have HF := Lib.hid hfin
          have HM := Lib.hid hme
          clear hcl hfin hme hq hb HLN HR
          go_wp2_with (first | (go_at_call 32; refine (HCL.out _).mono ?_; rintro e w1 ⟨rfl, rfl⟩))
          exact ⟨⟨pos + 1, by omega, HF.out, rfl⟩, HM.out⟩
        | false =>
          have hcl := HC.out (c.toNat : Int)
          rw [hq, hb] at hcl
          have hfin : (pos : Int) = (twn dig s.data.toList : Nat) := by
            rw [← HR.out, HLN.out, twn_stop hb]; rfl
          have HCL := Lib.hid hcl
          have HF := Lib.hid hfin
          clear hcl hfin hq hb HLN HR
          go_wp2_with (first | (go_at_call 32; refine (HCL.out _).mono ?_; rintro e w1 ⟨rfl, rfl⟩))
          go_ret
          exact ⟨ret_int HF.out, (Ext.refl _).alloc _⟩
      · have hdh := decode_high s pos hp (by omega)
        have hdc := decode_cont s pos hp (by omega)
        have hqc := fun j (h1 : pos ≤ j) (h2 : j < pos + (Utf8.decode s pos).2) => (hdc j h1 h2).imp fun hj h => (HK.out.hi _ _ hdh.1 h).symm
        obtain ⟨r, hr⟩ : ∃ r, r = Utf8.decode s pos := ⟨_, rfl⟩
        rw [← hr] at hnx hdh hqc
        obtain ⟨r1, r2⟩ := r
        simp only at hdh hnx hqc
        clear hr hdc
        have hlast := (hqc (pos + r2 - 1) (by omega) (by omega)).1
        cases hb : digI r1 with
        | true =>
          have hcl := HC.out (r1 : Int)
          rw [hb] at hcl
          have hfin : pos + r2 + twn dig (s.data.toList.drop (pos + r2)) = twn dig s.data.toList := by
            rw [← HR.out, twn_jump dig s r2 pos (fun j a b => (hqc j a b).imp fun hj h => by rw [h, hb])]; omega
          have hme : s.size - (w.alloc (.stringIter s (pos + r2))).iterPos w.heap.size < s.size - (w.alloc (.stringIter s pos)).iterPos w.heap.size := by
            rw [iterPos_at _ _ rfl, iterPos_at _ _ rfl]; omega
          have HCL := Lib.hid hcl
          have HF := Lib.hid hfin
          have HM := Lib.hid hme
          have hle : pos + r2 ≤ s.size := by omega
          clear hcl hfin hme hb HLN HR hqc hlast ha
          go_wp2_with (first | (go_at_call 32; refine (HCL.out _).mono ?_; rintro e w1 ⟨rfl, rfl⟩))
          exact ⟨⟨pos + r2, hle, HF.out, rfl⟩, HM.out⟩
        | false =>
          have hcl := HC.out (r1 : Int)
          rw [hb] at hcl
          have hfin : (pos : Int) = (twn dig s.data.toList : Nat) := by
            obtain ⟨_, h⟩ := hqc pos (Nat.le_refl _) (by omega)
            rw [← HR.out, HLN.out, twn_stop (by rw [h, hb])]; rfl
          have HCL := Lib.hid hcl
          have HF := Lib.hid hfin
          clear hcl hfin hb HLN HR hqc hlast ha
          go_wp2_with (first | (go_at_call 32; refine (HCL.out _).mono ?_; rintro e w1 ⟨rfl, rfl⟩))
          go_ret
          exact ⟨ret_int HF.out, (Ext.refl _).alloc _⟩
    · have hnx := fun ty => next_end w w.heap.size rfl s pos ty hp
      have hfin : (s.size : Int) = (twn dig s.data.toList : Nat) := by
        rw [← HR.out, drop_end s pos hp, show twn dig [] = 0 from rfl]; omega
      have HF := Lib.hid hfin
      clear hfin HR
      go_wp2
      go_ret
      exact ⟨ret_int HF.out, (Ext.refl _).alloc _⟩
set_option maxHeartbeats 4000000 in
set_option maxRecDepth 100000 in
theorem first29_any (s : ByteArray) (w : World) (hs : s.size ≤ 281474976710656) :
    Calls Tryd.prog 28 #[.string s, .func (.func 29) #[] #[]] w (IntPost (twn nlB s.data.toList) w) := by
  have HC := Lib.hid (fun (c : Int) X => (nl_any c X : Calls Tryd.prog 29 #[.int .i32 c] X (BQ (nlI c) X)))
  have HK := Lib.hid kind_nl
  go_enter Tryd.func28, Tryd.ntmps28
  go_wp2
  go_loopw [] (fun w' => FRel s nlB w w') (fun w' => s.size - w'.iterPos w.heap.size)
  case atStart => exact ⟨0, by omega, by simp, rfl⟩
  case round =>
    obtain ⟨pos, hpos, hrl, rfl⟩ := hrel
    have HR := Lib.hid hrl
    clear hrl
    by_cases hp : pos < s.size
    · have hnx := fun ty => next_any w w.heap.size rfl s pos ty hp
      have hln := get_list s pos hp
      have HLN := Lib.hid hln
      clear hln
      by_cases ha : (s[pos]'hp).toNat < 128
      · have hd := decode_ascii s pos hp ha
        have hq := HK.out.lo _ ha
        obtain ⟨c, hcc⟩ : ∃ c : UInt8, c = s[pos]'hp := ⟨_, rfl⟩
        rw [← hcc] at hd hq HLN ha
        simp only [hd] at hnx
        clear hcc hd
        cases hb : nlB c with
        | true =>
          have hcl := HC.out (c.toNat : Int)
          rw [hq, hb] at hcl
          have hfin : pos + 1 + twn nlB (s.data.toList.drop (pos + 1)) = twn nlB s.data.toList := by
            rw [← HR.out, HLN.out, twn_go hb]; omega
          have hme : s.size - (w.alloc (.stringIter s (pos + 1))).iterPos w.heap.size < s.size - (w.alloc (.stringIter s pos)).iterPos w.heap.size := by
            rw [iterPos_at _ _ rfl, iterPos_at _ _ rfl]; omega
          have HCL := Lib.hid hcl
          have HF := Lib.hid hfin
          have HM := Lib.hid hme
          clear hcl hfin hme hq hb HLN HR
          go_wp2_with (first | (go_at_call 29; refine (HCL.out _).mono ?_; rintro e w1 ⟨rfl, rfl⟩))
          exact ⟨⟨pos + 1, by omega, HF.out, rfl⟩, HM.out⟩
        | false =>
          have hcl := HC.out (c.toNat : Int)
          rw [hq, hb] at hcl
          have hfin : (pos : Int) = (twn nlB s.data.toList : Nat) := by
            rw [← HR.out, HLN.out, twn_stop hb]; rfl
          have HCL := Lib.hid hcl
          have HF := Lib.hid hfin
          clear hcl hfin hq hb HLN HR
          go_wp2_with (first | (go_at_call 29; refine (HCL.out _).mono ?_; rintro e w1 ⟨rfl, rfl⟩))
          go_ret
          exact ⟨ret_int HF.out, (Ext.refl _).alloc _⟩
      · have hdh := decode_high s pos hp (by omega)
        have hdc := decode_cont s pos hp (by omega)
        have hqc := fun j (h1 : pos ≤ j) (h2 : j < pos + (Utf8.decode s pos).2) => (hdc j h1 h2).imp fun hj h => (HK.out.hi _ _ hdh.1 h).symm
        obtain ⟨r, hr⟩ : ∃ r, r = Utf8.decode s pos := ⟨_, rfl⟩
        rw [← hr] at hnx hdh hqc
        obtain ⟨r1, r2⟩ := r
        simp only at hdh hnx hqc
        clear hr hdc
        have hlast := (hqc (pos + r2 - 1) (by omega) (by omega)).1
        cases hb : nlI r1 with
        | true =>
          have hcl := HC.out (r1 : Int)
          rw [hb] at hcl
          have hfin : pos + r2 + twn nlB (s.data.toList.drop (pos + r2)) = twn nlB s.data.toList := by
            rw [← HR.out, twn_jump nlB s r2 pos (fun j a b => (hqc j a b).imp fun hj h => by rw [h, hb])]; omega
          have hme : s.size - (w.alloc (.stringIter s (pos + r2))).iterPos w.heap.size < s.size - (w.alloc (.stringIter s pos)).iterPos w.heap.size := by
            rw [iterPos_at _ _ rfl, iterPos_at _ _ rfl]; omega
          have HCL := Lib.hid hcl
          have HF := Lib.hid hfin
          have HM := Lib.hid hme
          have hle : pos + r2 ≤ s.size := by omega
          clear hcl hfin hme hb HLN HR hqc hlast ha
          go_wp2_with (first | (go_at_call 29; refine (HCL.out _).mono ?_; rintro e w1 ⟨rfl, rfl⟩))
          exact ⟨⟨pos + r2, hle, HF.out, rfl⟩, HM.out⟩
        | false =>
          have hcl := HC.out (r1 : Int)
          rw [hb] at hcl
          have hfin : (pos : Int) = (twn nlB s.data.toList : Nat) := by
            obtain ⟨_, h⟩ := hqc pos (Nat.le_refl _) (by omega)
            rw [← HR.out, HLN.out, twn_stop (by rw [h, hb])]; rfl
          have HCL := Lib.hid hcl
          have HF := Lib.hid hfin
          clear hcl hfin hb HLN HR hqc hlast ha
          go_wp2_with (first | (go_at_call 29; refine (HCL.out _).mono ?_; rintro e w1 ⟨rfl, rfl⟩))
          go_ret
          exact ⟨ret_int HF.out, (Ext.refl _).alloc _⟩
    · have hnx := fun ty => next_end w w.heap.size rfl s pos ty hp
      have hfin : (s.size : Int) = (twn nlB s.data.toList : Nat) := by
        rw [← HR.out, drop_end s pos hp, show twn nlB [] = 0 from rfl]; omega
      have HF := Lib.hid hfin
      clear hfin HR
      go_wp2
      go_ret
      exact ⟨ret_int HF.out, (Ext.refl _).alloc _⟩
end Go.Proofs.YtbmcplnfamgpcaaDoor
