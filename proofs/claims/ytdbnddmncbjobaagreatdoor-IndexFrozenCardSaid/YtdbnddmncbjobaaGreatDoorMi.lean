/- strings.Compare and slices.SortFunc of places and of items, laid (print of lay-plain.mjs). -/
import Derived.Shelf.SlSortCmp.WholeK
import Derived.Shelf.Small.Strs
import Derived.Test.YtdbnddmncbjobaaGreatDoorProg
import Derived.Test.YtdbnddmncbjobaaGreatDoorMh
import Derived.Sort.OwnSorted
import Derived.Test.YtdbnddmncbjobaaGreatDoorMf
import Derived.Lib.SliceRun
import Derived.BigQuiet
import Derived.Test.YtdbnddmncbjobaaGreatDoorMb
import Derived.Deep.RegionHeld3
import Derived.Test.YtdbnddmncbjobaaGreatDoorMd
import Derived.Deep.RegionLaw
import Derived.StillTailTactics
namespace Go.Proofs
open Go.Shelf
def Tryz.lays106u_ren : Go.Shelf.Ren := ⟨fun | 106 => 68 | 213 => 122 | 265 => 147 | n => n, fun | 9 => 9 | 3 => 3 | n => n, fun | n => n⟩
theorem Tryz.lays106u : Go.Proofs.Lays.n106 Tryz.prog Tryz.lays106u_ren := {
  mixed := by kernel_rfl
  f106 := Tryz.func68.trans (congrArg some (by kernel_rfl))
  f213 := Tryz.func122.trans (congrArg some (by kernel_rfl))
  f265 := Tryz.func147.trans (congrArg some (by kernel_rfl))
  t3 := Tryz.underlying3
  a3 := Tryz.isAgg3
  z3 := Tryz.sizeOf3
  v3 := Tryz.zeroValue3
  t9 := Tryz.underlying9
  a9 := Tryz.isAgg9
  z9 := Tryz.sizeOf9
  v9 := Tryz.zeroValue9 }
def Tryz.sortCt_ren : Go.Shelf.Ren := ⟨fun | 6 => 111 | 15 => 141 | 14 => 140 | 28 => 166 | 29 => 167 | 20 => 158 | 21 => 159 | 22 => 160 | 23 => 161 | 24 => 162 | 25 => 163 | 26 => 164 | 27 => 165 | 46 => 201 | 47 => 202 | 48 => 203 | 49 => 204 | 50 => 205 | 57 => 232 | n => n, fun | 22 => 38 | 24 => 69 | 25 => 165 | 3 => 3 | 39 => 174 | 0 => 0 | 53 => 182 | 55 => 214 | 4 => 4 | 46 => 207 | 45 => 206 | 50 => 114 | 5 => 5 | 9 => 9 | 66 => 241 | 70 => 245 | 76 => 269 | 77 => 270 | n => n, fun | n => n⟩
theorem Tryz.sortCt : Go.Proofs.SlLaysF0.n6 Tryz.prog Tryz.sortCt_ren := {
  mixed := by kernel_rfl
  f6 := ⟨Tryz.f111.name, by decide, Tryz.func111.trans (congrArg some (by kernel_rfl))⟩
  f14 := ⟨Tryz.f140.name, by decide, Tryz.func140.trans (congrArg some (by kernel_rfl))⟩
  f15 := Tryz.func141.trans (congrArg some (by kernel_rfl))
  f20 := ⟨Tryz.f158.name, by decide, Tryz.func158.trans (congrArg some (by kernel_rfl))⟩
  f21 := ⟨Tryz.f159.name, by decide, Tryz.func159.trans (congrArg some (by kernel_rfl))⟩
  f22 := ⟨Tryz.f160.name, by decide, Tryz.func160.trans (congrArg some (by kernel_rfl))⟩
  f23 := ⟨Tryz.f161.name, by decide, Tryz.func161.trans (congrArg some (by kernel_rfl))⟩
  f24 := ⟨Tryz.f162.name, by decide, Tryz.func162.trans (congrArg some (by kernel_rfl))⟩
  f25 := ⟨Tryz.f163.name, by decide, Tryz.func163.trans (congrArg some (by kernel_rfl))⟩
  f26 := ⟨Tryz.f164.name, by decide, Tryz.func164.trans (congrArg some (by kernel_rfl))⟩
  f27 := ⟨Tryz.f165.name, by decide, Tryz.func165.trans (congrArg some (by kernel_rfl))⟩
  f28 := Tryz.func166.trans (congrArg some (by kernel_rfl))
  f29 := Tryz.func167.trans (congrArg some (by kernel_rfl))
  f46 := ⟨Tryz.f201.name, by decide, Tryz.func201.trans (congrArg some (by kernel_rfl))⟩
  f47 := Tryz.func202.trans (congrArg some (by kernel_rfl))
  f48 := Tryz.func203.trans (congrArg some (by kernel_rfl))
  f49 := ⟨Tryz.f204.name, by decide, Tryz.func204.trans (congrArg some (by kernel_rfl))⟩
  f50 := ⟨Tryz.f205.name, by decide, Tryz.func205.trans (congrArg some (by kernel_rfl))⟩
  f57 := ⟨Tryz.f232.name, by decide, Tryz.func232.trans (congrArg some (by kernel_rfl))⟩
  t0 := Tryz.underlying0
  a0 := Tryz.isAgg0
  z0 := Tryz.sizeOf0
  v0 := Tryz.zeroValue0
  t3 := Tryz.underlying3
  a3 := Tryz.isAgg3
  z3 := Tryz.sizeOf3
  v3 := Tryz.zeroValue3
  t4 := Tryz.underlying4
  a4 := Tryz.isAgg4
  z4 := Tryz.sizeOf4
  v4 := Tryz.zeroValue4
  t5 := Tryz.underlying5
  a5 := Tryz.isAgg5
  z5 := Tryz.sizeOf5
  v5 := Tryz.zeroValue5
  t9 := Tryz.underlying9
  a9 := Tryz.isAgg9
  z9 := Tryz.sizeOf9
  v9 := Tryz.zeroValue9
  t22 := Tryz.underlying38
  a22 := Tryz.isAgg38
  z22 := Tryz.sizeOf38
  v22 := Tryz.zeroValue38
  t25 := Tryz.underlying165
  a25 := Tryz.isAgg165
  z25 := Tryz.sizeOf165
  v25 := Tryz.zeroValue165
  t39 := Tryz.underlying174
  a39 := Tryz.isAgg174
  z39 := Tryz.sizeOf174
  v39 := Tryz.zeroValue174
  t45 := Tryz.underlying206
  a45 := Tryz.isAgg206
  z45 := Tryz.sizeOf206
  v45 := Tryz.zeroValue206
  t46 := Tryz.underlying207
  a46 := Tryz.isAgg207
  z46 := Tryz.sizeOf207
  v46 := Tryz.zeroValue207
  t50 := Tryz.underlying114
  a50 := Tryz.isAgg114
  z50 := Tryz.sizeOf114
  v50 := Tryz.zeroValue114
  t53 := Tryz.underlying182
  a53 := Tryz.isAgg182
  z53 := Tryz.sizeOf182
  v53 := Tryz.zeroValue182
  t55 := Tryz.underlying214
  a55 := Tryz.isAgg214
  z55 := Tryz.sizeOf214
  v55 := Tryz.zeroValue214
  t66 := Tryz.underlying241
  a66 := Tryz.isAgg241
  z66 := Tryz.sizeOf241
  v66 := Tryz.zeroValue241
  t70 := Tryz.underlying245
  a70 := Tryz.isAgg245
  z70 := Tryz.sizeOf245
  v70 := Tryz.zeroValue245
  t76 := Tryz.underlying269
  a76 := Tryz.isAgg269
  z76 := Tryz.sizeOf269
  v76 := Tryz.zeroValue269
  t77 := Tryz.underlying270
  a77 := Tryz.isAgg270
  z77 := Tryz.sizeOf270
  v77 := Tryz.zeroValue270 }
def Tryz.sortIt_ren : Go.Shelf.Ren := ⟨fun | 6 => 114 | 15 => 141 | 14 => 144 | 28 => 166 | 29 => 167 | 20 => 170 | 21 => 171 | 22 => 172 | 23 => 173 | 24 => 174 | 25 => 175 | 26 => 176 | 27 => 177 | 46 => 206 | 47 => 202 | 48 => 203 | 49 => 207 | 50 => 208 | 57 => 233 | n => n, fun | 22 => 33 | 24 => 99 | 25 => 167 | 3 => 3 | 39 => 174 | 0 => 0 | 53 => 182 | 55 => 214 | 4 => 4 | 46 => 207 | 45 => 206 | 50 => 114 | 5 => 5 | 9 => 9 | 66 => 241 | 70 => 245 | 76 => 269 | 77 => 270 | n => n, fun | n => n⟩
theorem Tryz.sortIt : Go.Proofs.SlLaysF0.n6 Tryz.prog Tryz.sortIt_ren := {
  mixed := by kernel_rfl
  f6 := ⟨Tryz.f114.name, by decide, Tryz.func114.trans (congrArg some (by kernel_rfl))⟩
  f14 := ⟨Tryz.f144.name, by decide, Tryz.func144.trans (congrArg some (by kernel_rfl))⟩
  f15 := Tryz.func141.trans (congrArg some (by kernel_rfl))
  f20 := ⟨Tryz.f170.name, by decide, Tryz.func170.trans (congrArg some (by kernel_rfl))⟩
  f21 := ⟨Tryz.f171.name, by decide, Tryz.func171.trans (congrArg some (by kernel_rfl))⟩
  f22 := ⟨Tryz.f172.name, by decide, Tryz.func172.trans (congrArg some (by kernel_rfl))⟩
  f23 := ⟨Tryz.f173.name, by decide, Tryz.func173.trans (congrArg some (by kernel_rfl))⟩
  f24 := ⟨Tryz.f174.name, by decide, Tryz.func174.trans (congrArg some (by kernel_rfl))⟩
  f25 := ⟨Tryz.f175.name, by decide, Tryz.func175.trans (congrArg some (by kernel_rfl))⟩
  f26 := ⟨Tryz.f176.name, by decide, Tryz.func176.trans (congrArg some (by kernel_rfl))⟩
  f27 := ⟨Tryz.f177.name, by decide, Tryz.func177.trans (congrArg some (by kernel_rfl))⟩
  f28 := Tryz.func166.trans (congrArg some (by kernel_rfl))
  f29 := Tryz.func167.trans (congrArg some (by kernel_rfl))
  f46 := ⟨Tryz.f206.name, by decide, Tryz.func206.trans (congrArg some (by kernel_rfl))⟩
  f47 := Tryz.func202.trans (congrArg some (by kernel_rfl))
  f48 := Tryz.func203.trans (congrArg some (by kernel_rfl))
  f49 := ⟨Tryz.f207.name, by decide, Tryz.func207.trans (congrArg some (by kernel_rfl))⟩
  f50 := ⟨Tryz.f208.name, by decide, Tryz.func208.trans (congrArg some (by kernel_rfl))⟩
  f57 := ⟨Tryz.f233.name, by decide, Tryz.func233.trans (congrArg some (by kernel_rfl))⟩
  t0 := Tryz.underlying0
  a0 := Tryz.isAgg0
  z0 := Tryz.sizeOf0
  v0 := Tryz.zeroValue0
  t3 := Tryz.underlying3
  a3 := Tryz.isAgg3
  z3 := Tryz.sizeOf3
  v3 := Tryz.zeroValue3
  t4 := Tryz.underlying4
  a4 := Tryz.isAgg4
  z4 := Tryz.sizeOf4
  v4 := Tryz.zeroValue4
  t5 := Tryz.underlying5
  a5 := Tryz.isAgg5
  z5 := Tryz.sizeOf5
  v5 := Tryz.zeroValue5
  t9 := Tryz.underlying9
  a9 := Tryz.isAgg9
  z9 := Tryz.sizeOf9
  v9 := Tryz.zeroValue9
  t22 := Tryz.underlying33
  a22 := Tryz.isAgg33
  z22 := Tryz.sizeOf33
  v22 := Tryz.zeroValue33
  t25 := Tryz.underlying167
  a25 := Tryz.isAgg167
  z25 := Tryz.sizeOf167
  v25 := Tryz.zeroValue167
  t39 := Tryz.underlying174
  a39 := Tryz.isAgg174
  z39 := Tryz.sizeOf174
  v39 := Tryz.zeroValue174
  t45 := Tryz.underlying206
  a45 := Tryz.isAgg206
  z45 := Tryz.sizeOf206
  v45 := Tryz.zeroValue206
  t46 := Tryz.underlying207
  a46 := Tryz.isAgg207
  z46 := Tryz.sizeOf207
  v46 := Tryz.zeroValue207
  t50 := Tryz.underlying114
  a50 := Tryz.isAgg114
  z50 := Tryz.sizeOf114
  v50 := Tryz.zeroValue114
  t53 := Tryz.underlying182
  a53 := Tryz.isAgg182
  z53 := Tryz.sizeOf182
  v53 := Tryz.zeroValue182
  t55 := Tryz.underlying214
  a55 := Tryz.isAgg214
  z55 := Tryz.sizeOf214
  v55 := Tryz.zeroValue214
  t66 := Tryz.underlying241
  a66 := Tryz.isAgg241
  z66 := Tryz.sizeOf241
  v66 := Tryz.zeroValue241
  t70 := Tryz.underlying245
  a70 := Tryz.isAgg245
  z70 := Tryz.sizeOf245
  v70 := Tryz.zeroValue245
  t76 := Tryz.underlying269
  a76 := Tryz.isAgg269
  z76 := Tryz.sizeOf269
  v76 := Tryz.zeroValue269
  t77 := Tryz.underlying270
  a77 := Tryz.isAgg270
  z77 := Tryz.sizeOf270
  v77 := Tryz.zeroValue270 }
end Go.Proofs

/- The sorts of places and of items: contracts. -/
namespace Go.Proofs.YtdbnddmncbjobaaGreatDoor
open Go Go.RowKit Go.Sort
attribute [local go_sem] Oper.semAt_some

def ctCs (c : Ct) : List Value := [.int .i64 c.br, .int .i64 c.nu, .int .i64 c.su, .int .i64 c.li]
/-- An item as it lies: its key and the slice of its places. -/
abbrev ItV := List UInt8 × Option Addr × Nat × Nat
instance : Inhabited Ct := ⟨⟨0, 0, 0, 0⟩⟩
theorem strcmp_any (a b : List UInt8) (w : World) : Calls Tryz.prog 68 #[.string ⟨a.toArray⟩, .string ⟨b.toArray⟩] w fun e w' => e = .returned (.int .i64 (Lib.compareBytes a b)) ∧ w' = w :=
  Any.strings_Compare Tryz.lays106u ⟨a.toArray⟩ ⟨b.toArray⟩ w
set_option maxRecDepth 100000 in
theorem itcmp_any (a b : List UInt8) (u v : Value) (w : World) : Calls Tryz.prog 115 #[.agg #[.string ⟨a.toArray⟩, u], .agg #[.string ⟨b.toArray⟩, v]] w fun e w' => e = .returned (.int .i64 (Lib.compareBytes a b)) ∧ Gr w w' := by
  have HC := Lib.hid (fun W => strcmp_any a b W)
  generalize Lib.compareBytes a b = r at HC ⊢
  have HX := Lib.hid (((Gr.refl w).alloc (.cells #[.string ⟨a.toArray⟩, u] 99)).alloc (.cells #[.string ⟨b.toArray⟩, v] 99))
  go_enter Tryz.func115, Tryz.ntmps115
  go_wp2_with (go_at_call 68; refine (HC.out _).mono ?_; rintro e w9 ⟨rfl, rfl⟩)
  go_ret
  exact ⟨rfl, HX.out⟩
theorem swoCt : SWO (ltOf cCmp) where
  irrefl x := by simp only [ltOf, decide_eq_false_iff_not, cCmp_lt]; exact cLt_irrefl x
  trans x y z h1 h2 := by simp only [ltOf, decide_eq_true_eq, cCmp_lt] at *; exact cLt_trans h1 h2
  ntrans x y z h1 h2 := by
    simp only [ltOf, decide_eq_false_iff_not, cCmp_lt] at *
    intro h3
    by_cases e : x = y
    · subst e; exact h2 h3
    · rcases cLt_tri e with h | h
      · exact h1 h
      · exact h2 (cLt_trans h h3)
theorem swoIt : SWO (ltOf fun x y : ItV => Lib.compareBytes x.1 y.1) where
  irrefl x := by simp only [ltOf, decide_eq_false_iff_not, cmpB_lt]; rw [sLt_irrefl]; simp
  trans x y z h1 h2 := by simp only [ltOf, decide_eq_true_eq, cmpB_lt] at *; exact sLt_trans h1 h2
  ntrans x y z h1 h2 := by
    simp only [ltOf, decide_eq_false_iff_not, cmpB_lt] at *
    intro h3
    by_cases e : x.1 = y.1
    · rw [e] at h3; exact h2 h3
    · rcases sLt_tri e with h | h
      · exact h1 h
      · exact h2 (sLt_trans h h3)
def itCs (x : ItV) : List Value := [.string ⟨x.1.toArray⟩, .slice x.2.1 x.2.2.1 x.2.2.2]
theorem cmpLaysCt (blk off size : Nat) (w : World) : CmpLays Tryz.prog 112 #[] ctCs 4 cCmp blk off size w := fun _ _ _ _ x y => compare_any x y _
theorem cmpLaysIt (blk off size : Nat) (w : World) : CmpLays Tryz.prog 115 #[] itCs 2 (fun x y : ItV => Lib.compareBytes x.1 y.1) blk off size w := fun _ _ _ _ x y => itcmp_any x.1 y.1 _ _ _
theorem sort_ct (blk cap : Nat) (d : Array Ct) (w : World) (hH : HoldsK ctCs 4 w blk 0 d) (hb : blk < w.heap.size) (hs : d.size < 4611686018427387904) :
    Calls Tryz.prog 111 #[.slice (some ⟨blk, 0, none⟩) d.size cap, .func (.func 112) #[] #[]] w fun e w' =>
      e = .returned (.tuple #[]) ∧ ∃ d' n os, PermIn 0 d.size d d' ∧ SortedIn (ltOf cCmp) 0 d.size d' ∧ w' = sortWorldK ctCs 4 w blk 0 n d' os := by
  have eg : ∀ args w, (callFunc 112 args).run Tryz.prog w = .ok (.enter 112 args) w := enters_of Tryz.func112 (by kernel_rfl) rfl
  exact AnyQ.slices_SortFunc Tryz.sortCt 4 Tryz.isAgg69 Tryz.sizeOf69 ctCs (fun _ => rfl) (fun x v hv => by simp [ctCs] at hv; rcases hv with rfl | rfl | rfl | rfl <;> rfl) cCmp swoCt 112 #[] blk 0 cap d w eg (cmpLaysCt blk 0 d.size w) hH hb hs
theorem sort_it (blk cap : Nat) (d : Array ItV) (w : World) (hH : HoldsK itCs 2 w blk 0 d) (hb : blk < w.heap.size) (hs : d.size < 4611686018427387904) :
    Calls Tryz.prog 114 #[.slice (some ⟨blk, 0, none⟩) d.size cap, .func (.func 115) #[] #[]] w fun e w' =>
      e = .returned (.tuple #[]) ∧ ∃ d' n os, PermIn 0 d.size d d' ∧ SortedIn (ltOf fun x y : ItV => Lib.compareBytes x.1 y.1) 0 d.size d' ∧ w' = sortWorldK itCs 2 w blk 0 n d' os := by
  have eg : ∀ args w, (callFunc 115 args).run Tryz.prog w = .ok (.enter 115 args) w := enters_of Tryz.func115 (by kernel_rfl) rfl
  exact AnyQ.slices_SortFunc Tryz.sortIt 2 Tryz.isAgg99 Tryz.sizeOf99 itCs (fun _ => rfl) (fun x v hv => by simp [itCs] at hv; rcases hv with rfl | rfl <;> rfl) (fun x y : ItV => Lib.compareBytes x.1 y.1) swoIt 115 #[] blk 0 cap d w eg (cmpLaysIt blk 0 d.size w) hH hb hs
end Go.Proofs.YtdbnddmncbjobaaGreatDoor

/- A row of the call's own, sorted. -/
namespace Go.Proofs.YtdbnddmncbjobaaGreatDoor
open Go Go.RowKit Go.Sort

section
variable {α : Type} [Inhabited α] {enc : α → List Value} {k : Nat}
theorem flatK_list (hk : ∀ x, (enc x).length = k) (d : List α) : (flatK enc k d.toArray).toList = d.flatMap enc := by
  have hl : (d.flatMap enc).length = d.length * k := gcells_len (cf := enc) hk d
  apply List.ext_getElem?
  intro t
  by_cases ht : t < d.length * k
  · have k0 : 0 < k := by
      rcases Nat.eq_zero_or_pos k with h | h
      · subst h; simp at ht
      · exact h
    have hi : t / k < d.length := Nat.div_lt_of_lt_mul (by rw [Nat.mul_comm]; exact ht)
    have hj : t % k < k := Nat.mod_lt _ k0
    have e : t = t / k * k + t % k := by rw [Nat.mul_comm]; exact (Nat.div_add_mod t k).symm
    have h1 := gcells_at (cf := enc) hk d (t / k) _ (List.getElem?_eq_getElem hi) (t % k) hj
    rw [← e] at h1
    have h2 : (flatK enc k d.toArray).toList[t]? = some ((enc d.toArray[t / k]!)[t % k]!) := by
      have hs : t < (flatK enc k d.toArray).size := by simpa using ht
      rw [Array.getElem?_toList, Array.getElem?_eq_getElem hs]
      have := get_flatK enc k d.toArray t (by simpa using ht)
      rw [getElem!_pos _ t hs] at this
      rw [this]
    rw [h2]
    refine Eq.trans ?_ h1.symm
    have e3 : d.toArray[t / k]! = d[t / k] := by rw [getElem!_pos _ _ (by simpa using hi)]; simp
    rw [e3, List.getElem?_eq_getElem (by rw [hk]; exact hj), getElem!_pos _ _ (by rw [hk]; exact hj)]
  · rw [List.getElem?_eq_none (by simpa using ht), List.getElem?_eq_none (by rw [hl]; omega)]
theorem holdsK_block (hk : ∀ x, (enc x).length = k) {w : World} {g : Nat} {cur : Array Value} {e : TypeId} {xs : List α} (hb : w.heap[g]? = some (.cells cur e (0, 0))) (h4 : cur.toList.take (xs.length * k) = xs.flatMap enc) : HoldsK enc k w g 0 xs.toArray := by
  intro j hj
  have hj' : j < xs.length * k := by simpa using hj
  refine ⟨?_, by simp [World.frozen?, hb]⟩
  have h1 : (cur.toList.take (xs.length * k))[j]? = ((flatK enc k xs.toArray).toList)[j]? := by rw [h4, flatK_list hk]
  rw [List.getElem?_take_of_lt hj'] at h1
  simp only [World.cell?, hb, Nat.zero_add]
  simp only [Option.isSome_none, Bool.false_eq_true, if_false]
  rw [← Array.getElem?_toList, h1, Array.getElem?_toList, Array.getElem?_eq_getElem hj, getElem!_pos _ j hj]
  rfl
theorem heap_sortedK {w : World} {g n : Nat} {os : Array Obj} {cur : Array Value} {e : TypeId} {fr : Nat × Nat} (d : Array α) (hb : w.heap[g]? = some (.cells cur e fr)) :
    (sortWorldK enc k w g 0 n d os).heap[g]? = some (.cells (putCells id 0 (flatK enc k d) cur) e fr) := by
  have hg : g < w.heap.size := (Array.getElem?_eq_some_iff.1 hb).1
  unfold sortWorldK putRowK
  rw [heap_grow_old _ _ (by simpa using hg)]
  simp [putRow, mapBlock, Sort.ahead, Array.getElem?_modify, hb, onCells]
theorem grown_sortedK {w : World} {g n : Nat} {os : Array Obj} (d : Array α) : w.grownBy (sortWorldK enc k w g 0 n d os) (some g) := by
  unfold sortWorldK putRowK
  refine ⟨rfl, rfl, rfl, by simp, fun j hj hne => ?_⟩
  rw [heap_grow_old _ _ (by simpa using hj)]
  have : g ≠ j := fun e => hne (by rw [e])
  simp [putRow, mapBlock, Sort.ahead, Array.getElem?_modify, this]
theorem take_putK (hk : ∀ x, (enc x).length = k) (cur : Array Value) (ts : List α) (h : ts.length * k ≤ cur.size) : (putCells id 0 (flatK enc k ts.toArray) cur).toList.take (ts.length * k) = ts.flatMap enc := by
  rw [← flatK_list hk]
  apply List.ext_getElem?
  intro j
  by_cases hj : j < ts.length * k
  · have hs : j < (flatK enc k ts.toArray).size := by simpa using hj
    rw [List.getElem?_take_of_lt hj, Array.getElem?_toList, Array.getElem?_toList, Array.getElem?_eq_getElem hs]
    unfold putCells
    rw [Array.getElem?_mapIdx, Array.getElem?_eq_getElem (by omega : j < cur.size)]
    simp only [Option.map_some, Nat.zero_le, Nat.zero_add, true_and, Nat.sub_zero, id]
    rw [if_pos hs, getElem!_pos _ j hs]
  · rw [List.getElem?_take_eq_none (by omega), List.getElem?_eq_none (by simpa using hj)]
theorem ownsRow_sortedK (hk : ∀ x, (enc x).length = k) {w : World} {base g cap n : Nat} {e : TypeId} {os : Array Obj} {cur : Array Value} {ts : List α} {m : Nat} (hl : ts.length = m) (hbase : base ≤ g) (hb : w.heap[g]? = some (.cells cur e (0, 0)))
    (h1 : m ≤ cap) (h2 : cap ≤ maxLen) (h3 : cur.size = cap * k) :
    (sortWorldK enc k w g 0 n ts.toArray os).ownsRow base e k (.slice (some ⟨g, 0, none⟩) m cap) m (ts.flatMap enc) := by
  subst hl
  refine ⟨gcells_len (cf := enc) hk ts, .inr ⟨g, cap, _, rfl, hbase, heap_sortedK _ hb, h1, h2, by simp [putCells, h3], ?_⟩⟩
  exact take_putK hk cur ts (by rw [h3]; exact Nat.mul_le_mul_right _ h1)
end
/-- A row of plain cells, both ways. -/
theorem ct_cells {W : World} {B : Nat} {P : Nat → Prop} {v : Value} {xs : List Ct} (h : kCt.own 69 W B P v xs) : W.ownsRow B 69 4 v xs.length (xs.flatMap ctCs) := by
  obtain ⟨ds, h1, h2, h3⟩ := h
  have e : gcells ccf ds = xs.flatMap ctCs := by
    have : ∀ (ds : List (Cs kCt.sz)) (xs : List Ct), ds.length = xs.length → (∀ (i : Nat) (d : Cs kCt.sz) (x : Ct), ds[i]? = some d → xs[i]? = some x → ccf d = ctCs x) → gcells ccf ds = xs.flatMap ctCs := by
      intro ds
      induction ds with
      | nil => intro xs hl _; cases xs with
        | nil => rfl
        | cons x xs => simp at hl
      | cons d ds ih => intro xs hl hh; cases xs with
        | nil => simp at hl
        | cons x xs =>
          have h0 := hh 0 d x rfl rfl
          have h1 := ih xs (by simpa using hl) fun i d x hd hx => hh (i + 1) d x (by simpa using hd) (by simpa using hx)
          unfold gcells at h1 ⊢
          rw [List.flatMap_cons, List.flatMap_cons, h0, h1]
    exact this ds xs h2 fun i d x hd hx => kCt_rep.1 (h3 i d x hd hx)
  unfold OL at h1
  rw [h2, e] at h1
  exact h1
theorem ctCs_one (x : Ct) : ∀ u ∈ ctCs x, u.oneCell' = true := fun u hu => by
  simp only [ctCs, List.mem_cons, List.not_mem_nil, or_false] at hu
  rcases hu with rfl | rfl | rfl | rfl <;> rfl
def ctC (x : Ct) : Cs kCt.sz := ⟨ctCs x, show (ctCs x).length = kCt.sz from rfl, ctCs_one x⟩
theorem gcells_ctC (xs : List Ct) : gcells ccf (xs.map ctC) = xs.flatMap ctCs := by
  induction xs with
  | nil => rfl
  | cons x xs ih => unfold gcells at ih ⊢; rw [List.map_cons, List.flatMap_cons, List.flatMap_cons, ih]; rfl
theorem cells_ct {W : World} {B : Nat} {P : Nat → Prop} {v : Value} {xs : List Ct} (h : W.ownsRow B 69 4 v xs.length (xs.flatMap ctCs)) : kCt.own 69 W B P v xs := by
  refine ⟨xs.map ctC, ?_, List.length_map _, fun i d x hd hx => ?_⟩
  · unfold OL
    rw [gcells_ctC, List.length_map]
    exact h
  · rw [List.getElem?_map, hx] at hd
    simp only [Option.map_some, Option.some.injEq] at hd
    subst hd
    exact kCt_rep.2 rfl
end Go.Proofs.YtdbnddmncbjobaaGreatDoor

/- Places sorted in their own row. -/
namespace Go.Proofs.YtdbnddmncbjobaaGreatDoor
open Go Go.RowKit Go.Sort

section
variable {α : Type} [Inhabited α] {lt : α → α → Bool}
theorem perm_all {d d' : Array α} (h : PermIn 0 d.size d d') : d'.toList.Perm d.toList := by
  obtain ⟨h1, _, h3⟩ := h
  have e1 : d'.extract 0 d.size = d' := by rw [← h1]; exact Array.extract_size
  have e2 : d.extract 0 d.size = d := Array.extract_size
  rwa [e1, e2] at h3
theorem sorted_all {d : Array α} {n : Nat} (hn : n = d.size) (h : SortedIn lt 0 n d) : d.toList.Pairwise fun a b => lt b a = false := by
  subst hn
  rw [List.pairwise_iff_getElem]
  intro i j hi hj hij
  have := h i j (Nat.zero_le _) hij (by simpa using hj)
  rw [getElem!_pos d i (by simpa using hi), getElem!_pos d j (by simpa using hj)] at this
  simpa using this
end
theorem sort_own (w : World) (B : Nat) (v : Value) (xs : List Ct) (h : kCt.own 69 w B (fun _ => False) v xs) (hne : xs ≠ []) (hl : xs.length ≤ 100000000) :
    Calls Tryz.prog 111 #[v, .func (.func 112) #[] #[]] w fun e w' => e = .returned (.tuple #[]) ∧ ∃ ys, ys.Perm xs ∧ (ys.Pairwise fun a b => ¬ CLt b a) ∧ kCt.own 69 w' B (fun _ => False) v ys ∧ w.grownBy w' v.ownBlock := by
  have hc := ct_cells h
  rcases hc.2 with ⟨_, h0⟩ | ⟨g, cap, cur, rfl, hbase, hb, h1, h2, h3, h4⟩
  · exact absurd (List.length_eq_zero_iff.1 h0) hne
  have hk : ∀ x, (ctCs x).length = 4 := fun _ => rfl
  have hg : g < w.heap.size := (Array.getElem?_eq_some_iff.1 hb).1
  have hs := sort_ct g cap xs.toArray w (holdsK_block hk hb h4) hg (by simp; omega)
  rw [List.size_toArray] at hs
  refine hs.mono ?_
  rintro e w' ⟨he, d', n, os, hp, hsr, rfl⟩
  have hsz : d'.size = xs.length := by have := hp.1; simpa using this
  have hp' : d'.toList.Perm xs := by
    have := perm_all (d := xs.toArray) (d' := d') (by simpa using hp)
    simpa using this
  refine ⟨he, d'.toList, hp', ?_, ?_, ?_⟩
  · refine (sorted_all (by rw [hsz]) hsr).imp fun {a b} hab => ?_
    simp only [ltOf, decide_eq_false_iff_not, cCmp_lt] at hab
    exact hab
  · have h9 := ownsRow_sortedK (enc := ctCs) hk (w := w) (base := B) (g := g) (cap := cap) (n := n) (os := os) (ts := d'.toList) (m := xs.length) (by simpa using hsz) hbase hb h1 h2 h3
    have e2 : d'.toList.length = xs.length := by simpa using hsz
    rw [← e2] at h9 ⊢
    exact cells_ct (by simpa using h9)
  · exact grown_sortedK d'
end Go.Proofs.YtdbnddmncbjobaaGreatDoor

/- slices.Compact of places, plain. -/
namespace Go.Proofs.YtdbnddmncbjobaaGreatDoor

theorem ded_snoc : ∀ (l : List Ct) (a b : Ct), dedP (l ++ [a, b]) = if a = b then dedP (l ++ [a]) else dedP (l ++ [a]) ++ [b]
  | [], a, b => by
    by_cases h : a = b
    · simp [dedP, h]
    · simp [dedP, h]
  | x :: l, a, b => by
    have ih := ded_snoc l a b
    have hne : dedP (l ++ [a]) ≠ [] := ded_ne (by simp)
    obtain ⟨y, s, hy⟩ := List.exists_cons_of_ne_nil hne
    by_cases h : a = b
    · rw [if_pos h] at ih ⊢
      rw [List.cons_append, List.cons_append]
      unfold dedP
      rw [ih]
    · rw [if_neg h] at ih ⊢
      rw [List.cons_append, List.cons_append]
      unfold dedP
      rw [ih, hy]
      simp only [List.cons_append]
      split <;> rfl
theorem take_two {xs : List Ct} {i : Nat} {a b : Ct} (ha : xs[i]? = some a) (hb : xs[i + 1]? = some b) : xs.take (i + 2) = xs.take i ++ [a, b] ∧ xs.take (i + 1) = xs.take i ++ [a] := by
  have e1 : xs.take (i + 1) = xs.take i ++ [a] := by rw [List.take_add_one, ha]; rfl
  refine ⟨?_, e1⟩
  rw [show i + 2 = (i + 1) + 1 from rfl, List.take_add_one, hb, e1]
  simp
theorem ded_step_same {xs : List Ct} {i : Nat} {a : Ct} (ha : xs[i]? = some a) (hb : xs[i + 1]? = some a) : dedP (xs.take (i + 2)) = dedP (xs.take (i + 1)) := by
  obtain ⟨e2, e1⟩ := take_two ha hb
  rw [e2, e1, ded_snoc, if_pos rfl]
theorem ded_step_new {xs : List Ct} {i : Nat} {a b : Ct} (ha : xs[i]? = some a) (hb : xs[i + 1]? = some b) (h : a ≠ b) : dedP (xs.take (i + 2)) = dedP (xs.take (i + 1)) ++ [b] := by
  obtain ⟨e2, e1⟩ := take_two ha hb
  rw [e2, e1, ded_snoc, if_neg h]
/-- So far the places before k are different from their neighbours. -/
def Pfx (xs : List Ct) (k : Nat) : Prop := dedP (xs.take k) = xs.take k
theorem Pfx.one (xs : List Ct) : Pfx xs 1 := by
  unfold Pfx
  cases xs with
  | nil => rfl
  | cons x xs => simp [dedP]
theorem Pfx.next {xs : List Ct} {k : Nat} {a b : Ct} (h : Pfx xs (k + 1)) (ha : xs[k]? = some a) (hb : xs[k + 1]? = some b) (hne : a ≠ b) : Pfx xs (k + 2) := by
  unfold Pfx at *
  rw [ded_step_new ha hb hne, h]
  obtain ⟨e2, e1⟩ := take_two ha hb
  rw [e2, e1]
  simp
/-- A place has come twice: i of the places are done, k of them stand in the row R. -/
structure CmI (xs : List Ct) (i k : Nat) (R : List Ct) : Prop where
  len : R.length = xs.length
  lt : k + 1 ≤ i
  out : R.take k = dedP (xs.take i)
  rest : ∀ j, i ≤ j + 1 → R[j]? = xs[j]?
theorem CmI.start {xs : List Ct} {k : Nat} {a : Ct} (h : Pfx xs (k + 1)) (ha : xs[k]? = some a) (hb : xs[k + 1]? = some a) : CmI xs (k + 2) (k + 1) xs :=
  ⟨rfl, Nat.le_refl _, by rw [ded_step_same ha hb]; exact h.symm, fun _ _ => rfl⟩
theorem CmI.same {xs R : List Ct} {i k : Nat} {a : Ct} (h : CmI xs (i + 1) k R) (ha : xs[i]? = some a) (hb : xs[i + 1]? = some a) : CmI xs (i + 2) k R :=
  ⟨h.len, Nat.le_succ_of_le h.lt, by rw [ded_step_same ha hb]; exact h.out, fun j hj => h.rest j (by omega)⟩
theorem CmI.new {xs R : List Ct} {i k : Nat} {a b : Ct} (h : CmI xs (i + 1) k R) (ha : xs[i]? = some a) (hb : xs[i + 1]? = some b) (hne : a ≠ b) : CmI xs (i + 2) (k + 1) (R.set k b) := by
  have hi := (List.getElem?_eq_some_iff.1 hb).1
  have hk := h.lt
  have hl := h.len
  refine ⟨by rw [List.length_set]; exact h.len, by omega, ?_, fun j hj => ?_⟩
  · rw [ded_step_new ha hb hne, ← h.out, List.take_add_one, List.take_set_of_le (Nat.le_refl k), List.getElem?_set_self (by omega)]
    rfl
  · rw [List.getElem?_set_ne (by omega)]
    exact h.rest j (by omega)
theorem CmI.fin {xs R : List Ct} {i k : Nat} (h : CmI xs i k R) (hi : xs.length ≤ i) : R.take k = dedP xs := by rw [h.out, List.take_of_length_le hi]
end Go.Proofs.YtdbnddmncbjobaaGreatDoor

/- slices.Compact of places: what lies in the row; builtin clear at places. -/
namespace Go.Proofs.YtdbnddmncbjobaaGreatDoor
open Go Go.RowKit

theorem setCells_block (g : Nat) : ∀ (vs : List Value) (o : Nat) (W : World) (cur : Array Value) (e : TypeId), W.heap[g]? = some (.cells cur e (0, 0)) →
    ∃ cur', (W.setCells g o vs).heap[g]? = some (.cells cur' e (0, 0)) ∧ cur'.size = cur.size ∧ (∀ j, j < o → cur'[j]? = cur[j]?) ∧ W.grownBy (W.setCells g o vs) (some g)
  | [], o, W, cur, e, h => ⟨cur, h, rfl, fun _ _ => rfl, ⟨rfl, rfl, rfl, Nat.le_refl _, fun _ _ _ => rfl⟩⟩
  | v :: vs, o, W, cur, e, h => by
    have h1 := heap_setCell_same W g o cur e v h
    obtain ⟨cur', k1, k2, k3, k4⟩ := setCells_block g vs (o + 1) (W.setCell ⟨g, o, none⟩ v) _ e h1
    refine ⟨cur', k1, by rw [k2]; simp, fun j hj => ?_, ⟨k4.os, k4.tape, k4.output, by have := k4.size; rwa [World.size_setCell] at this, fun j hj hne => ?_⟩⟩
    · rw [k3 j (by omega)]
      simp [show o ≠ j by omega]
    · have hjg : j ≠ g := fun e9 => hne (by rw [e9])
      exact (k4.block j (by rw [World.size_setCell]; exact hj) hne).trans (heap_setCell_other W ⟨g, o, none⟩ j v hjg)
/-- 'clear(s)' at elements of several cells. -/
theorem run_clear_many {P : Program} (w : World) (t e ty : TypeId) (z : Value) (ht : P.underlying t = some (.slice e)) (hv : ∀ w, (zeroValue e).run P w = .ok z w) (h1 : ∀ u ∈ z.cells.toList, u.oneCell' = true) (b o n c : Nat) (hn : 0 < n)
    (hc : ∀ j, j < n * z.cells.size → (w.cell? ⟨b, o + j, none⟩).isSome = true) (hf : ∀ j, w.frozen? ⟨b, j, none⟩ = false) :
    (Builtin.clear_ #[t] ty #[.slice (some ⟨b, o, none⟩) n c]).run P w = .ok (.tuple #[]) (w.setCells b o (Builtin.zeroCells z.cells n).toList) := by
  have hl : (Builtin.zeroCells z.cells n).toList.length = n * z.cells.size := by simp [Builtin.zeroCells]
  have hst := run_storeCells_cells (P := P) b o (Builtin.zeroCells z.cells n).toList 0 w (by rw [hl]; simpa using hc) (fun j _ => by simpa using hf (o + j)) (by
    intro v hv'
    simp only [Builtin.zeroCells, Array.toList_map, List.mem_map] at hv'
    obtain ⟨i, hi, rfl⟩ := hv'
    have hi' : i < n * z.cells.size := by simpa using hi
    have h0 : 0 < z.cells.size := by
      rcases Nat.eq_zero_or_pos z.cells.size with h | h
      · rw [h] at hi'; simp at hi'
      · exact h
    have hm := Nat.mod_lt i h0
    rw [getElem!_pos z.cells _ hm]
    exact h1 _ (by simp))
  simp only [Nat.add_zero] at hst
  obtain ⟨m, rfl⟩ : ∃ m, n = m + 1 := ⟨n - 1, by omega⟩
  simp [Builtin.clear_, run_underlying ht, hv, hst]
/-- Block g begins with the places R. -/
def CRow (W : World) (g N : Nat) (R : List Ct) : Prop := ∃ cur, W.heap[g]? = some (.cells cur 69 (0, 0)) ∧ cur.toList.take (R.length * 4) = R.flatMap ctCs ∧ R.length * 4 ≤ cur.size ∧ cur.size = N
theorem CRow.at {W : World} {g N : Nat} {R : List Ct} (h : CRow W g N R) {i : Nat} {x : Ct} (hi : R[i]? = some x) :
    W.cell? ⟨g, i * 4, none⟩ = some (.int .i64 x.br) ∧ W.cell? ⟨g, i * 4 + 1, none⟩ = some (.int .i64 x.nu) ∧ W.cell? ⟨g, i * 4 + 2, none⟩ = some (.int .i64 x.su) ∧ W.cell? ⟨g, i * 4 + 3, none⟩ = some (.int .i64 x.li) := by
  obtain ⟨cur, hb, ht, hs, hN⟩ := h
  have hl := (List.getElem?_eq_some_iff.1 hi).1
  have key : ∀ j u, j < 4 → (ctCs x)[j]? = some u → W.cell? ⟨g, i * 4 + j, none⟩ = some u := fun j u hj hu => by
    have h1 := gcells_at (cf := ctCs) (sz := 4) (fun _ => rfl) R i x hi j hj
    have h2 : (cur.toList.take (R.length * 4))[i * 4 + j]? = (R.flatMap ctCs)[i * 4 + j]? := by rw [ht]
    rw [List.getElem?_take_of_lt (by omega), Array.getElem?_toList] at h2
    exact cell_of hb (h2.trans (h1.trans hu))
  exact ⟨key 0 _ (by omega) rfl, key 1 _ (by omega) rfl, key 2 _ (by omega) rfl, key 3 _ (by omega) rfl⟩
theorem CRow.frozen {W : World} {g N : Nat} {R : List Ct} (h : CRow W g N R) (i : Nat) : W.frozen? ⟨g, i, none⟩ = false := by
  obtain ⟨cur, hb, _⟩ := h
  exact frozen_of hb i
theorem CRow.drew {W : World} {g N n : Nat} {R : List Ct} (h : CRow W g N R) : CRow (W.drewN n) g N R := h
/-- A place is stored. -/
def cSt4 (W : World) (g k : Nat) (x : Ct) : World := (((W.setCell ⟨g, k * 4, none⟩ (.int .i64 x.br)).setCell ⟨g, k * 4 + 1, none⟩ (.int .i64 x.nu)).setCell ⟨g, k * 4 + 2, none⟩ (.int .i64 x.su)).setCell ⟨g, k * 4 + 3, none⟩ (.int .i64 x.li)
theorem CRow.set {W : World} {g k N : Nat} {R : List Ct} (h : CRow W g N R) (x : Ct) (hk : k < R.length) : CRow (cSt4 W g k x) g N (R.set k x) ∧ W.grownBy (cSt4 W g k x) (some g) := by
  obtain ⟨cur, hb, ht, hs, hN⟩ := h
  refine ⟨⟨_, heap_setCell_same _ g _ _ 69 _ (heap_setCell_same _ g _ _ 69 _ (heap_setCell_same _ g _ _ 69 _ (heap_setCell_same _ g _ _ 69 _ hb))), ?_, by simpa using hs, by simpa using hN⟩, ⟨rfl, rfl, rfl, by simp [cSt4], fun j _ hne => ?_⟩⟩
  · rw [List.length_set]
    apply List.ext_getElem?
    intro t
    have hL : ((R.set k x).flatMap ctCs).length = R.length * 4 := by have := gcells_len (cf := ctCs) (sz := 4) (fun _ => rfl) (R.set k x); rw [List.length_set] at this; exact this
    by_cases hT : t < R.length * 4
    · rw [List.getElem?_take_of_lt hT, Array.getElem?_toList]
      have hi : t / 4 < R.length := Nat.div_lt_of_lt_mul (by rw [Nat.mul_comm]; exact hT)
      have e : t = t / 4 * 4 + t % 4 := by omega
      have hold : cur[t]? = (R.flatMap ctCs)[t]? := by
        rw [← ht, List.getElem?_take_of_lt hT, Array.getElem?_toList]
      have h1 := gcells_at (cf := ctCs) (sz := 4) (fun _ => rfl) (R.set k x) (t / 4) _ (List.getElem?_eq_getElem (by rw [List.length_set]; exact hi)) (t % 4) (by omega)
      have h2 := gcells_at (cf := ctCs) (sz := 4) (fun _ => rfl) R (t / 4) _ (List.getElem?_eq_getElem hi) (t % 4) (by omega)
      rw [← e] at h1 h2
      refine Eq.trans ?_ h1.symm
      by_cases hkt : k = t / 4
      · have hx : (R.set k x)[t / 4]'(by rw [List.length_set]; exact hi) = x := by subst hkt; simp
        rw [hx]
        have hm : t % 4 = 0 ∨ t % 4 = 1 ∨ t % 4 = 2 ∨ t % 4 = 3 := by omega
        have hcs : t < cur.size := by omega
        rcases hm with hm | hm | hm | hm
        · have et : t = k * 4 := by omega
          rw [hm, et]
          rw [et] at hcs
          simp [ctCs, hcs]
        · have et : t = k * 4 + 1 := by omega
          rw [hm, et]
          rw [et] at hcs
          simp [ctCs, hcs]
        · have et : t = k * 4 + 2 := by omega
          rw [hm, et]
          rw [et] at hcs
          simp [ctCs, hcs]
        · have et : t = k * 4 + 3 := by omega
          rw [hm, et]
          rw [et] at hcs
          simp [ctCs, hcs]
      · have hx : (R.set k x)[t / 4]'(by rw [List.length_set]; exact hi) = R[t / 4] := by rw [List.getElem_set_ne hkt]
        rw [hx, ← h2]
        rw [Array.getElem?_setIfInBounds_ne (by omega), Array.getElem?_setIfInBounds_ne (by omega), Array.getElem?_setIfInBounds_ne (by omega), Array.getElem?_setIfInBounds_ne (by omega)]
        exact hold
    · rw [List.getElem?_take_eq_none (by omega), List.getElem?_eq_none (by rw [hL]; omega)]
  · have hjg : j ≠ g := fun e9 => hne (by rw [e9])
    unfold cSt4
    rw [heap_setCell_other _ ⟨g, k * 4 + 3, none⟩ j _ hjg, heap_setCell_other _ ⟨g, k * 4 + 2, none⟩ j _ hjg, heap_setCell_other _ ⟨g, k * 4 + 1, none⟩ j _ hjg, heap_setCell_other _ ⟨g, k * 4, none⟩ j _ hjg]
/-- The row is cut at k, and what lies behind is written. -/
theorem CRow.cut {W : World} {g k N : Nat} {R : List Ct} (h : CRow W g N R) (hk : k ≤ R.length) (vs : List Value) : CRow (W.setCells g (k * 4) vs) g N (R.take k) ∧ W.grownBy (W.setCells g (k * 4) vs) (some g) := by
  obtain ⟨cur, hb, ht, hs, hN⟩ := h
  obtain ⟨cur', k1, k2, k3, k4⟩ := setCells_block g vs (k * 4) W cur 69 hb
  have hl : (R.take k).length = k := by rw [List.length_take]; omega
  refine ⟨⟨cur', k1, ?_, by rw [hl, k2]; omega, by rw [k2]; exact hN⟩, k4⟩
  rw [hl]
  have e1 : cur'.toList.take (k * 4) = cur.toList.take (k * 4) := by
    apply List.ext_getElem?
    intro j
    by_cases hj : j < k * 4
    · rw [List.getElem?_take_of_lt hj, List.getElem?_take_of_lt hj, Array.getElem?_toList, Array.getElem?_toList, k3 j hj]
    · rw [List.getElem?_take_eq_none (by omega), List.getElem?_take_eq_none (by omega)]
  have e2 : cur.toList.take (k * 4) = (cur.toList.take (R.length * 4)).take (k * 4) := by rw [List.take_take, Nat.min_eq_left (by omega)]
  have e3 : R.flatMap ctCs = (R.take k).flatMap ctCs ++ (R.drop k).flatMap ctCs := by rw [← List.flatMap_append, List.take_append_drop]
  have e4 : ((R.take k).flatMap ctCs).length = k * 4 := by have := gcells_len (cf := ctCs) (sz := 4) (fun _ => rfl) (R.take k); rw [hl] at this; exact this
  rw [e1, e2, ht, e3, ← e4, List.take_left]
end Go.Proofs.YtdbnddmncbjobaaGreatDoor

/- slices.Compact of places: walked. -/
namespace Go.Proofs.YtdbnddmncbjobaaGreatDoor
open Go Go.RowKit
attribute [local go_sem] Oper.semAt_some

/-- Between two rounds of the outer loop. -/
def CoO (w : World) (xs : List Ct) (s3 : Value) (W : World) : Prop := ∃ k : Nat, k + 1 ≤ xs.length ∧ s3 = .int .i64 ((k + 1 : Nat) : Int) ∧ Pfx xs (k + 1) ∧ ∃ n, W = w.drewN n
/-- Between two rounds of the inner loop, which began at k0. -/
def CoN (w : World) (g N k0 : Nat) (xs : List Ct) (s3 s5 : Value) (W : World) : Prop := ∃ (m k : Nat) (R : List Ct), k0 + m + 1 ≤ xs.length ∧ s3 = .int .i64 (k : Int) ∧ s5 = .int .i64 ((m + 1 : Nat) : Int) ∧ CmI xs (k0 + m + 1) k R ∧ CRow W g N R ∧ w.grownBy W (some g)
set_option maxHeartbeats 1000000 in
theorem eqIn_ct (d : Nat) (x y : Ct) (w : World) : (Op.equalIn (d + 2 + 1) 69 (ctV x) (ctV y)).run Tryz.prog w = .ok (decide (x = y)) w := by
  obtain ⟨r, n, s, l⟩ := x
  obtain ⟨r', n', s', l'⟩ := y
  unfold ctV
  rw [Op.equalIn]
  simp [go_sem]
  by_cases h1 : r = r' <;> by_cases h2 : n = n' <;> by_cases h3 : s = s' <;> by_cases h4 : l = l' <;> simp [h1, h2, h3, h4]
theorem eql_ct (x y : Ct) (w : World) : (binOp .eql 69 (ctV x) (ctV y)).run Tryz.prog w = .ok (.bool (decide (x = y))) w := by
  have h := eqIn_ct 9997 x y w
  unfold ctV at h ⊢
  simp only [binOp]
  simp [Op.equal, Op.maxDepth, h]
theorem neq_ct (x y : Ct) (w : World) : (binOp .neq 69 (ctV x) (ctV y)).run Tryz.prog w = .ok (.bool (!decide (x = y))) w := by
  have h := eqIn_ct 9997 x y w
  unfold ctV at h ⊢
  simp only [binOp]
  simp [Op.equal, Op.maxDepth, h]
theorem eql_ne {x y : Ct} (h : x ≠ y) (W : World) : (binOp .eql 69 (.agg #[.int .i64 x.br, .int .i64 x.nu, .int .i64 x.su, .int .i64 x.li]) (.agg #[.int .i64 y.br, .int .i64 y.nu, .int .i64 y.su, .int .i64 y.li])).run Tryz.prog W = .ok (.bool false) W := by
  have := eql_ct x y W; rw [decide_eq_false h] at this; exact this
set_option maxHeartbeats 4000000 in
set_option maxRecDepth 100000 in
theorem compact_any (w : World) (g N cap : Nat) (xs : List Ct) (hr : CRow w g N xs) (hn : 2 ≤ xs.length) (hl : xs.length ≤ 100000000) (hc : xs.length ≤ cap) :
    Calls Tryz.prog 113 #[.slice (some ⟨g, 0, none⟩) xs.length cap] w fun e w' => e = .returned (.slice (some ⟨g, 0, none⟩) (dedP xs).length cap) ∧ CRow w' g N (dedP xs) ∧ (dedP xs).length ≤ xs.length ∧ w.grownBy w' (some g) := by
  have HR := Lib.hid hr
  clear hr
  obtain ⟨n, hn'⟩ : ∃ n, xs.length = n := ⟨_, rfl⟩
  rw [hn'] at hn hl hc ⊢
  go_enter Tryz.func113, Tryz.ntmps113
  go_wp2_with fail
  go_loopw [3] (fun s3 W => CoO w xs s3 W) (fun s3 _ => toM n s3)
  case atStart => exact ⟨0, by omega, rfl, Pfx.one xs, 0, rfl⟩
  case round =>
    obtain ⟨k, hk, rfl, hp, q, rfl⟩ := hrel
    have HP := Lib.hid hp
    clear hp
    rw [hn'] at hk
    by_cases hlt : k + 1 < n
    case neg =>
      obtain rfl : n = k + 1 := by omega
      have hni : ¬ (((k + 1 : Nat) : Int) < ((k + 1 : Nat) : Int)) := by omega
      go_wp2_with fail
      go_ret
      have hd : dedP xs = xs := by have := HP.out; unfold Pfx at this; rwa [← hn', List.take_length] at this
      exact ⟨by rw [hd, hn']; rfl, by rw [hd]; exact HR.out.drew, by rw [hd, hn']; exact Nat.le_refl _, ⟨rfl, rfl, rfl, Nat.le_refl _, fun _ _ _ => rfl⟩⟩
    have hI : ((k + 1 : Nat) : Int) < (n : Int) := by omega
    obtain ⟨a, ha⟩ : ∃ a, xs[k]? = some a := ⟨_, List.getElem?_eq_getElem (by omega)⟩
    obtain ⟨b, hb⟩ : ∃ b, xs[k + 1]? = some b := ⟨_, List.getElem?_eq_getElem (by omega)⟩
    obtain ⟨a0, a1, a2, a3⟩ := HR.out.at ha
    obtain ⟨b0, b1, b2, b3⟩ := HR.out.at hb
    have i1 : (k : Int) + 1 < (n : Int) := by omega
    have i2 : (0 : Int) ≤ (k : Int) + 1 := by omega
    have i3 : ((k : Int) + 1).toNat = k + 1 := by omega
    have i4 : (k : Int) < (n : Int) := by omega
    have i5 : IntKind.i64.wrap (k : Int) = (k : Int) := by simp [IntKind.wrap, IntKind.bits, IntKind.signed]; omega
    have HA := Lib.hid ha
    have HB := Lib.hid hb
    clear ha hb
    by_cases hab : b = a
    · subst hab
      have d : ∀ W, (binOp .eql 69 (.agg #[.int .i64 b.br, .int .i64 b.nu, .int .i64 b.su, .int .i64 b.li]) (.agg #[.int .i64 b.br, .int .i64 b.nu, .int .i64 b.su, .int .i64 b.li])).run Tryz.prog W = .ok (.bool true) W := fun W => by
        have := eql_ct b b W; rw [decide_eq_true rfl] at this; exact this
      have HS := Lib.hid (CmI.start HP.out HA.out HB.out)
      go_upto_region 6 with (fail)
      go_quiet (fail)
      clear a0 a1 a2 a3 b0 b1 b2 b3 d
      go_wp2_with fail
      go_loopw [3, 5] (fun s3 s5 W => CoN w g N (k + 1) xs s3 s5 W) (fun _ s5 _ => toM (n - (k + 1)) s5)
      case atStart => exact ⟨0, k + 1, xs, by omega, by go_num, rfl, HS.out, HR.out.drew, ⟨rfl, rfl, rfl, Nat.le_refl _, fun _ _ _ => rfl⟩⟩
      case round =>
        obtain ⟨m, kk, R, hm, rfl, rfl, hI, hW, hG⟩ := hrel
        obtain ⟨n1, e1⟩ : ∃ n1, n - (k + 1) = n1 := ⟨_, rfl⟩
        obtain ⟨c1, e2⟩ : ∃ c1, cap - (k + 1) = c1 := ⟨_, rfl⟩
        rw [e1, e2]
        rw [hn'] at hm
        have hRl : R.length = n := by rw [hI.len, hn']
        have hkk := hI.lt
        have HI := Lib.hid hI
        have HW := Lib.hid hW
        have HG := Lib.hid hG
        have HRL := Lib.hid hRl
        have HGD := Lib.hid (fun q => (show w.grownBy (wr.drewN q) (some g) from ⟨HG.out.os, HG.out.tape, HG.out.output, HG.out.size, HG.out.block⟩))
        clear hI hW hG hRl
        by_cases hlt : m + 1 < n1
        case neg =>
          have hJ : ¬ ((m + 1 : Nat) : Int) < (n1 : Int) := by omega
          have j1 : ¬ (m : Int) + 1 < (n1 : Int) := by omega
          have hfin := HI.out.fin (by omega)
          have hk2 : kk < n := by omega
          have hdl : (dedP xs).length = kk := by rw [← hfin, List.length_take]; have := HRL.out; omega
          have HD := Lib.hid hdl
          have HFI := Lib.hid hfin
          have hcl : ∀ ty, (Builtin.clear_ #[38] ty #[.slice (some ⟨g, kk * 4, none⟩) (n - kk) (cap - kk)]).run Tryz.prog wr = .ok (.tuple #[]) (wr.setCells g (kk * 4) (Builtin.zeroCells (Value.agg #[.int .i64 0, .int .i64 0, .int .i64 0, .int .i64 0]).cells (n - kk)).toList) := fun ty =>
            run_clear_many wr 38 69 ty _ Tryz.underlying38 Tryz.zeroValue69 (by intro u hu; simp [Value.cells] at hu; rw [hu]; rfl) g (kk * 4) (n - kk) (cap - kk) (by omega) (fun j hj => by
              have hj4 : j < (n - kk) * 4 := hj
              have hjn : kk + j / 4 < R.length := by have := HRL.out; omega
              obtain ⟨c0, c1, c2, c3⟩ := HW.out.at (List.getElem?_eq_getElem hjn)
              have hm4 : j % 4 = 0 ∨ j % 4 = 1 ∨ j % 4 = 2 ∨ j % 4 = 3 := by omega
              rcases hm4 with h9 | h9 | h9 | h9
              · rw [show kk * 4 + j = (kk + j / 4) * 4 by omega, c0]; rfl
              · rw [show kk * 4 + j = (kk + j / 4) * 4 + 1 by omega, c1]; rfl
              · rw [show kk * 4 + j = (kk + j / 4) * 4 + 2 by omega, c2]; rfl
              · rw [show kk * 4 + j = (kk + j / 4) * 4 + 3 by omega, c3]; rfl) (fun j => HW.out.frozen j)
          generalize (Builtin.zeroCells (Value.agg #[.int .i64 0, .int .i64 0, .int .i64 0, .int .i64 0]).cells (n - kk)).toList = vs at hcl
          have HC := Lib.hid (HW.out.cut (k := kk) (by have := HRL.out; omega) vs)
          have t1 : (kk : Int) ≤ (n : Int) := by omega
          have t2 : (kk : Int) ≤ (cap : Int) := by omega
          clear hfin hdl
          go_wp2_with fail
          go_ret
          refine ⟨by rw [HD.out]; rfl, ?_, by rw [HD.out]; omega, HG.out.andThen HC.out.2 (fun _ hj => .inr hj)⟩
          have := HC.out.1
          rwa [HFI.out] at this
        have hJ : ((m + 1 : Nat) : Int) < (n1 : Int) := by omega
        have j1 : (m : Int) + 1 < (n1 : Int) := by omega
        have j2 : (0 : Int) ≤ (m : Int) + 1 := by omega
        have j3 : ((m : Int) + 1).toNat = m + 1 := by omega
        have j4 : (m : Int) < (n1 : Int) := by omega
        have j5 : IntKind.i64.wrap (m : Int) = (m : Int) := by simp [IntKind.wrap, IntKind.bits, IntKind.signed]; omega
        obtain ⟨x, hx⟩ : ∃ x, xs[k + 1 + m]? = some x := ⟨_, List.getElem?_eq_getElem (by omega)⟩
        obtain ⟨y, hy⟩ : ∃ y, xs[k + 1 + m + 1]? = some y := ⟨_, List.getElem?_eq_getElem (by omega)⟩
        obtain ⟨a0, a1, a2, a3⟩ := HW.out.at ((HI.out.rest (k + 1 + m) (by omega)).trans hx)
        obtain ⟨b0, b1, b2, b3⟩ := HW.out.at ((HI.out.rest (k + 1 + m + 1) (by omega)).trans hy)
        rw [show (k + 1 + m) * 4 = (k + 1) * 4 + m * 4 by omega] at a0 a1 a2 a3
        rw [show (k + 1 + m + 1) * 4 = (k + 1) * 4 + (m + 1) * 4 by omega] at b0 b1 b2 b3
        have HX := Lib.hid hx
        have HY := Lib.hid hy
        clear hx hy
        by_cases hxy : y = x
        · subst hxy
          have d : ∀ W, (binOp .neq 69 (.agg #[.int .i64 y.br, .int .i64 y.nu, .int .i64 y.su, .int .i64 y.li]) (.agg #[.int .i64 y.br, .int .i64 y.nu, .int .i64 y.su, .int .i64 y.li])).run Tryz.prog W = .ok (.bool false) W := fun W => by
            have := neq_ct y y W; rw [decide_eq_true rfl] at this; exact this
          go_upto_region 11 with (fail)
          go_quiet (fail)
          go_wp2_with fail
          go_roundw
          case rel => exact ⟨m + 1, kk, R, by omega, rfl, by go_num, HI.out.same HX.out HY.out, HW.out.drew, ⟨HG.out.os, HG.out.tape, HG.out.output, HG.out.size, HG.out.block⟩⟩
          case measure => simp only [toM]; omega
        · have d : ∀ W, (binOp .neq 69 (.agg #[.int .i64 y.br, .int .i64 y.nu, .int .i64 y.su, .int .i64 y.li]) (.agg #[.int .i64 x.br, .int .i64 x.nu, .int .i64 x.su, .int .i64 x.li])).run Tryz.prog W = .ok (.bool true) W := fun W => by
            have := neq_ct y x W; rw [decide_eq_false hxy] at this; exact this
          have hk2 : kk < R.length := by have := HRL.out; omega
          obtain ⟨r, hr⟩ : ∃ r, R[kk]? = some r := ⟨_, List.getElem?_eq_getElem hk2⟩
          obtain ⟨r0, r1, r2, r3⟩ := HW.out.at hr
          have f0 := HW.out.frozen (kk * 4)
          have f1 := HW.out.frozen (kk * 4 + 1)
          have f2 := HW.out.frozen (kk * 4 + 2)
          have f3 := HW.out.frozen (kk * 4 + 3)
          have t1 : (kk : Int) < (n : Int) := by have := HRL.out; omega
          have HN := Lib.hid (HI.out.new HX.out HY.out (Ne.symm hxy))
          have HST := Lib.hid (fun q => (CRow.set (HW.out.drew (n := q)) y hk2))
          clear hxy hr
          go_upto_region 11 with (fail)
          go_quiet (fail)
          go_wp2_with fail
          go_roundw
          case rel => exact ⟨m + 1, kk + 1, R.set kk y, by omega, by go_num, by go_num, HN.out, (HST.out _).1, (HGD.out _).andThen (HST.out _).2 (fun _ hj => .inr hj)⟩
          case measure => simp only [toM]; omega
    · have d := eql_ne hab
      have HN := Lib.hid (HP.out.next HA.out HB.out (Ne.symm hab))
      clear hab
      go_upto_region 6 with (fail)
      go_quiet (fail)
      trace_state
      go_wp2_with fail
      go_roundw
      case rel => exact ⟨k + 1, by omega, by go_num, HN.out, _, rfl⟩
      case measure => simp only [toM]; omega
theorem compact_one (w : World) (A : Option Addr) (c : Nat) : Calls Tryz.prog 113 #[.slice A 1 c] w fun e w' => e = .returned (.slice A 1 c) ∧ w = w' := by
  go_enter Tryz.func113, Tryz.ntmps113
  go_wp2_with fail
  go_ret
  exact ⟨rfl, rfl⟩
/-- slices.Compact at a row of the call's own. -/
theorem compact_own (w : World) (B : Nat) (v : Value) (xs : List Ct) (h : kCt.own 69 w B (fun _ => False) v xs) (hne : xs ≠ []) (hl : xs.length ≤ 100000000) :
    Calls Tryz.prog 113 #[v] w fun e w' => ∃ v', e = .returned v' ∧ v'.ownBlock = v.ownBlock ∧ kCt.own 69 w' B (fun _ => False) v' (dedP xs) ∧ w.grownBy w' v.ownBlock := by
  have hc := ct_cells h
  rcases hc.2 with ⟨_, h0⟩ | ⟨g, cap, cur, rfl, hbase, hb, h1, h2, h3, h4⟩
  · exact absurd (List.length_eq_zero_iff.1 h0) hne
  by_cases hn : 2 ≤ xs.length
  · refine (compact_any w g (cap * 4) cap xs ⟨cur, hb, h4, by omega, h3⟩ hn hl h1).mono ?_
    rintro e w' ⟨rfl, ⟨cur', hb', ht', hs', hz'⟩, hle, hg⟩
    refine ⟨_, rfl, rfl, cells_ct ⟨gcells_len (cf := ctCs) (sz := 4) (fun _ => rfl) _, .inr ⟨g, cap, cur', rfl, hbase, hb', by omega, h2, hz', ht'⟩⟩, hg⟩
  · have e1 : xs.length = 1 := by have := List.length_pos_iff.2 hne; omega
    obtain ⟨x, rfl⟩ : ∃ x, xs = [x] := List.length_eq_one_iff.1 e1
    refine (compact_one w (some ⟨g, 0, none⟩) cap).mono ?_
    rintro e w' ⟨rfl, rfl⟩
    exact ⟨_, rfl, rfl, h, ⟨rfl, rfl, rfl, Nat.le_refl _, fun _ _ _ => rfl⟩⟩
end Go.Proofs.YtdbnddmncbjobaaGreatDoor

/- The reference's SameCites: walked. -/
namespace Go.Proofs.YtdbnddmncbjobaaGreatDoor
open Go Go.RowKit
attribute [local go_sem] Oper.semAt_some

theorem ct_at {W : World} {P : Nat → Prop} {A : Option Addr} {n : Nat} {xs : List Ct} (h : kCt.row W P A n xs) {i : Nat} {x : Ct} (hi : xs[i]? = some x) :
    ∃ b off, A = some ⟨b, off, none⟩ ∧ b < W.heap.size ∧ P b ∧ W.cell? ⟨b, off + i * 4, none⟩ = some (.int .i64 x.br) ∧ W.cell? ⟨b, off + i * 4 + 1, none⟩ = some (.int .i64 x.nu) ∧ W.cell? ⟨b, off + i * 4 + 2, none⟩ = some (.int .i64 x.su) ∧ W.cell? ⟨b, off + i * 4 + 3, none⟩ = some (.int .i64 x.li) := by
  obtain ⟨b, off, cs, rfl, hb, hP, hrep, hc⟩ := Lay.row_at h hi
  rw [kCt_rep.1 hrep] at hc
  exact ⟨b, off, rfl, hb, hP, hc 0 _ rfl, hc 1 _ rfl, hc 2 _ rfl, hc 3 _ rfl⟩
theorem take_eq {α : Type} {xs ys : List α} {i : Nat} {x y : α} (h : xs.take i = ys.take i) (hx : xs[i]? = some x) (hy : ys[i]? = some y) (e : x = y) : xs.take (i + 1) = ys.take (i + 1) := by
  rw [List.take_add_one, List.take_add_one, h, hx, hy, e]
def SaR (w : World) (n : Nat) (xs ys : List Ct) (s5 : Value) (W : World) : Prop := ∃ i : Nat, i ≤ n ∧ s5 = .int .i64 i ∧ xs.take i = ys.take i ∧ ∃ q, W = w.drewN q
set_option maxHeartbeats 4000000 in
set_option maxRecDepth 100000 in
theorem samec_any (P Q : Nat → Prop) (w : World) (xs ys : List Ct) (A A' : Option Addr) (n n' c c' : Nat) (h : kCt.row w P A n xs) (h' : kCt.row w Q A' n' ys) (hn : n ≤ 100000000) (hn' : n' ≤ 100000000) :
    Calls Tryz.prog 27 #[.slice A n c, .slice A' n' c'] w fun e w' => e = .returned (.bool (decide (xs = ys))) ∧ ∃ q, w' = w.drewN q := by
  have HL := Lib.hid (Lay.row_len h)
  have HL' := Lib.hid (Lay.row_len h')
  have HR := Lib.hid h
  have HR' := Lib.hid h'
  obtain ⟨r, hr⟩ : ∃ r, decide (xs = ys) = r := ⟨_, rfl⟩
  rw [hr]
  have HV := Lib.hid hr
  clear h h' hr
  by_cases hne : n = n'
  case neg =>
    have d : ((n : Int) != (n' : Int)) = true := by simp; omega
    have hF : r = false := by rw [← HV.out]; exact decide_eq_false fun e => hne (by rw [HL.out, HL'.out, e])
    subst hF
    go_enter Tryz.func27, Tryz.ntmps27
    go_wp2_with fail
    go_ret
    exact ⟨rfl, 0, rfl⟩
  subst hne
  go_enter Tryz.func27, Tryz.ntmps27
  go_wp2_with fail
  go_loopw [5] (fun s5 W => SaR w n xs ys s5 W) (fun s5 _ => toM n s5)
  case atStart => exact ⟨0, by omega, rfl, rfl, 0, rfl⟩
  case round =>
    obtain ⟨i, hi, rfl, hp, q, rfl⟩ := hrel
    have HP := Lib.hid hp
    clear hp
    by_cases hlt : i < n
    case neg =>
      obtain rfl : i = n := by omega
      have hni : ¬ ((i : Int) < (i : Int)) := by omega
      have hF : r = true := by
        rw [← HV.out]
        have := HP.out
        rw [HL.out, List.take_length] at this
        rw [← HL.out, HL'.out, List.take_length] at this
        exact decide_eq_true this
      subst hF
      go_wp2_with fail
      go_ret
      exact ⟨rfl, q, rfl⟩
    have hI : (i : Int) < (n : Int) := by omega
    obtain ⟨x, hx⟩ : ∃ x, xs[i]? = some x := ⟨_, List.getElem?_eq_getElem (by have := HL.out; omega)⟩
    obtain ⟨y, hy⟩ : ∃ y, ys[i]? = some y := ⟨_, List.getElem?_eq_getElem (by have := HL'.out; omega)⟩
    obtain ⟨b, off, rfl, _, _, a0, a1, a2, a3⟩ := ct_at HR.out hx
    obtain ⟨b', off', rfl, _, _, b0, b1, b2, b3⟩ := ct_at HR'.out hy
    have HX := Lib.hid hx
    have HY := Lib.hid hy
    clear hx hy
    by_cases hxy : x = y
    · subst hxy
      have d : ∀ W, (binOp .neq 69 (.agg #[.int .i64 x.br, .int .i64 x.nu, .int .i64 x.su, .int .i64 x.li]) (.agg #[.int .i64 x.br, .int .i64 x.nu, .int .i64 x.su, .int .i64 x.li])).run Tryz.prog W = .ok (.bool false) W := fun W => by
        have := neq_ct x x W; rw [decide_eq_true rfl] at this; exact this
      go_upto_region 6 with (fail)
      go_quiet (fail)
      go_wp2_with fail
      go_roundw
      case rel => exact ⟨i + 1, by omega, by go_num, take_eq HP.out HX.out HY.out rfl, _, rfl⟩
      case measure => simp only [toM]; omega
    · have d : ∀ W, (binOp .neq 69 (.agg #[.int .i64 x.br, .int .i64 x.nu, .int .i64 x.su, .int .i64 x.li]) (.agg #[.int .i64 y.br, .int .i64 y.nu, .int .i64 y.su, .int .i64 y.li])).run Tryz.prog W = .ok (.bool true) W := fun W => by
        have := neq_ct x y W; rw [decide_eq_false hxy] at this; exact this
      have hF : r = false := by
        rw [← HV.out]
        exact decide_eq_false fun e => hxy (by have h9 := HX.out; rw [e, HY.out] at h9; injection h9 with h9; exact h9.symm)
      subst hF
      clear hxy
      go_upto_region 6 with (fail)
      go_quiet (fail)
      go_wp2_with fail
      go_ret
      exact ⟨rfl, q + nq, by simp [World.drewN, Nat.add_assoc]⟩
end Go.Proofs.YtdbnddmncbjobaaGreatDoor

/- The reference's place: walked. -/
namespace Go.Proofs.YtdbnddmncbjobaaGreatDoor
open Go Go.RowKit
attribute [local go_sem] Oper.semAt_some

theorem info69 : (Tryz.prog.info? 69).map (fun i => (i.zero, i.size, i.bytes)) = some (some (Value.agg #[.int .i64 0, .int .i64 0, .int .i64 0, .int .i64 0]), 4, 32) := by kernel_rfl
theorem place_skip : ∀ {l : List Ct} {x : Ct} (k : Nat), (∀ y ∈ l.take k, CLt y x) → placeP l x = l.take k ++ placeP (l.drop k) x
  | _, _, 0, _ => rfl
  | [], _, _ + 1, _ => rfl
  | y :: r, x, k + 1, h => by
    have h1 : CLt y x := h y (by simp)
    have ih := place_skip (l := r) (x := x) k fun z hz => h z (by simp [hz])
    simp only [placeP, if_pos h1, List.take_succ_cons, List.drop_succ_cons, List.cons_append, ih]
theorem place_here {l : List Ct} {x y : Ct} {k : Nat} (h : ∀ y ∈ l.take k, CLt y x) (hy : l[k]? = some y) (hn : ¬ CLt y x) : placeP l x = if y = x then l else l.take k ++ [x] ++ l.drop k := by
  rw [place_skip k h]
  obtain ⟨hk, rfl⟩ := List.getElem?_eq_some_iff.1 hy
  have e : l.drop k = l[k] :: l.drop (k + 1) := List.drop_eq_getElem_cons hk
  rw [e]
  simp only [placeP, if_neg hn]
  split
  · rw [← e, List.take_append_drop]
  · simp
theorem place_end {l : List Ct} {x : Ct} (h : ∀ y ∈ l, CLt y x) : placeP l x = l ++ [x] := by
  have := place_skip (l := l) (x := x) l.length (by rw [List.take_length]; exact h)
  rw [List.take_length, List.drop_length] at this
  exact this
/-- A row of the call's own, as a row. -/
theorem own_rowQ {β : Type} {k : Lay β} {e : TypeId} {W : World} {base : Nat} {P : Nat → Prop} {A : Option Addr} {n c : Nat} {xs : List β} (h : k.own e W base P (.slice A n c) xs) : n ≤ c ∧ k.row W (fun j => P j ∨ base ≤ j) A n xs := by
  obtain ⟨A', c', e1, h1, h2⟩ := Lay.own_row h
  have hlt := Lay.own_lt h
  obtain ⟨rfl, rfl, rfl⟩ := Value.slice.inj e1
  exact ⟨h1, Lay.row_mono h2 fun j hj _ => hj.imp id fun hj => (hlt j hj).1⟩
theorem row_A {β : Type} {k : Lay β} {W : World} {P : Nat → Prop} {A : Option Addr} {n : Nat} {xs : List β} (h : k.row W P A n xs) (e : A = none) : n = 0 := by
  subst e
  obtain ⟨ds, h1, h2, h3, _⟩ := h
  rcases Nat.eq_zero_or_pos n with h | h
  · exact h
  · obtain ⟨b, off, e, _⟩ := h3.2 h; cases e
/-- The first elements of a row. -/
theorem hi38 (A : Option Addr) (n c k : Nat) (hk : k ≤ n) (hn : n ≤ c) (hA : A = none → n = 0) (W : World) : (Instr.sliceAt 38 (.slice A n c) none (some (.int .i64 (k : Int))) none).run Tryz.prog W = .ok (.slice A k c) W := by
  have h1 : (k : Int) ≤ (c : Int) := by omega
  cases A with
  | none =>
    obtain rfl := hA rfl
    obtain rfl : k = 0 := by omega
    by_cases hc : c = 0
    · subst hc; go_simp
    · go_simp
  | some a =>
    by_cases hc : c = 0
    · subst hc
      obtain rfl : k = 0 := by omega
      go_simp
    · go_simp
theorem hi33 (A : Option Addr) (n c k : Nat) (hk : k ≤ n) (hn : n ≤ c) (hA : A = none → n = 0) (W : World) : (Instr.sliceAt 33 (.slice A n c) none (some (.int .i64 (k : Int))) none).run Tryz.prog W = .ok (.slice A k c) W := by
  have h1 : (k : Int) ≤ (c : Int) := by omega
  cases A with
  | none =>
    obtain rfl := hA rfl
    obtain rfl : k = 0 := by omega
    by_cases hc : c = 0
    · subst hc; go_simp
    · go_simp
  | some a =>
    by_cases hc : c = 0
    · subst hc
      obtain rfl : k = 0 := by omega
      go_simp
    · go_simp
/-- The last elements of a row. -/
theorem lo38 (A : Option Addr) (n c l : Nat) (hl : l ≤ n) (hn : n ≤ c) (hA : A = none → n = 0) (W : World) : (Instr.sliceAt 38 (.slice A n c) (some (.int .i64 (l : Int))) none none).run Tryz.prog W = .ok (.slice (A.map fun a => if c = l then a else a.add (l * 4)) (n - l) (c - l)) W := by
  have h1 : (l : Int) ≤ (n : Int) := by omega
  have h2 : (l : Int) ≤ (c : Int) := by omega
  cases A with
  | none =>
    obtain rfl := hA rfl
    obtain rfl : l = 0 := by omega
    by_cases hc : c = 0
    · subst hc; go_simp
    · go_simp
  | some a =>
    by_cases h : c = l
    · subst h
      have : n = c := by omega
      subst this
      go_simp
    · have h3 : ¬ l = c := fun e => h e.symm
      simp only [Option.map_some, if_neg h]
      go_simp
theorem lo33 (A : Option Addr) (n c l : Nat) (hl : l ≤ n) (hn : n ≤ c) (hA : A = none → n = 0) (W : World) : (Instr.sliceAt 33 (.slice A n c) (some (.int .i64 (l : Int))) none none).run Tryz.prog W = .ok (.slice (A.map fun a => if c = l then a else a.add (l * 2)) (n - l) (c - l)) W := by
  have h1 : (l : Int) ≤ (n : Int) := by omega
  have h2 : (l : Int) ≤ (c : Int) := by omega
  cases A with
  | none =>
    obtain rfl := hA rfl
    obtain rfl : l = 0 := by omega
    by_cases hc : c = 0
    · subst hc; go_simp
    · go_simp
  | some a =>
    by_cases h : c = l
    · subst h
      have : n = c := by omega
      subst this
      go_simp
    · have h3 : ¬ l = c := fun e => h e.symm
      simp only [Option.map_some, if_neg h]
      go_simp
theorem row_lo {β : Type} {k : Lay β} {W : World} {P : Nat → Prop} {A : Option Addr} {n c : Nat} {xs : List β} (h : k.row W P A n xs) (l : Nat) (hl : l ≤ n) (hc : n ≤ c) : k.row W P (A.map fun a => if c = l then a else a.add (l * k.sz)) (n - l) (xs.drop l) := by
  have hlen := Lay.row_len h
  by_cases h0 : n - l = 0
  · rw [h0, List.drop_of_length_le (by omega)]
    obtain ⟨ds, _, _, _, h4, _⟩ := h
    refine ⟨[], rfl, rfl, ⟨rfl, fun h => absurd h (Nat.lt_irrefl _)⟩, fun x hx => ?_, fun i d x hd => by simp at hd⟩
    cases A with
    | none => cases hx
    | some a =>
      simp only [Option.map_some, Option.some.injEq] at hx
      subst hx
      have := h4 a rfl
      split
      · exact this
      · unfold Addr.add
        split <;> exact this
  · obtain ⟨x, hx⟩ : ∃ x, xs[0]? = some x := ⟨_, List.getElem?_eq_getElem (by omega)⟩
    obtain ⟨b, off, cs, rfl, _⟩ := Lay.row_at h hx
    simp only [Option.map_some, if_neg (show ¬ c = l by omega)]
    have := Lay.row_drop h l
    unfold Addr.add
    by_cases h9 : l * k.sz = 0
    · simpa [h9] using this
    · simpa [h9] using this
theorem pl_runs (P : Nat → Prop) (w1 X : World) (l : List Ct) (x : Ct) (A : Option Addr) (n c k : Nat) (hr : kCt.row w1 P A n l) (hX : Ext w1 X) (hk : k ≤ n) (hc : n ≤ c) (hn : n ≤ 40000000) :
    ∃ A1 c1 w2, (Builtin.append_ #[38, 38] 38 #[.slice none 0 0, .slice A k c]).run Tryz.prog X = .ok (.slice A1 k c1) w2 ∧ Ext w1 w2 ∧
    ∃ A2 c2 w3, (Builtin.append_ #[38, 38] 38 #[.slice A1 k c1, .slice (some ⟨w2.heap.size, 0, none⟩) 1 1]).run Tryz.prog (w2.alloc (.cells #[.int .i64 x.br, .int .i64 x.nu, .int .i64 x.su, .int .i64 x.li] 69)) = .ok (.slice A2 (k + 1) c2) w3 ∧
    ∃ A3 c3 w4, (Builtin.append_ #[38, 38] 38 #[.slice A2 (k + 1) c2, .slice (A.map fun a => if c = k then a else a.add (k * 4)) (n - k) (c - k)]).run Tryz.prog w3 = .ok (.slice A3 (k + 1 + (n - k)) c3) w4 ∧ k + 1 + (n - k) ≤ c3 ∧
      kCt.row w4 (fun j => P j ∨ w1.heap.size ≤ j) A3 (k + 1 + (n - k)) (l.take k ++ [x] ++ l.drop k) ∧ Ext w1 w4 := by
  have hlen := Lay.row_len hr
  have ht : (l.take k).length = k := by rw [List.length_take]; omega
  obtain ⟨A1, c1, w2, r1, o1, x1⟩ := own_app (k := kCt) (Pr := Tryz.prog) (t := 38) (e := 69) Tryz.underlying38 info69 rfl (by decide) (by omega) (Lay.own_nil kCt 69 X w1.heap.size P) hX (Lay.row_take hr k hk) c (by simp; omega)
  simp only [List.length_nil, Nat.zero_add, List.nil_append] at r1 o1
  obtain ⟨A2, c2, w3, r2, o2, b2, _⟩ := own_app1 (k := kCt) (Pr := Tryz.prog) (t := 38) (e := 69) Tryz.underlying38 info69 rfl (by decide) (by omega) o1 x1.lt (cs := #[.int .i64 x.br, .int .i64 x.nu, .int .i64 x.su, .int .i64 x.li]) (T := 69) (x := x) (kCt_rep.2 rfl) 1 (by omega)
  rw [ht] at r2 o2
  have x2 : Ext w1 w3 := Below.trans x1 (b2 _ (Nat.le_refl _))
  obtain ⟨A3, c3, w4, r3, o3, x3⟩ := own_app (k := kCt) (Pr := Tryz.prog) (t := 38) (e := 69) Tryz.underlying38 info69 rfl (by decide) (by omega) o2 x2 (row_lo hr k hk hc) (c - k) (by simp; omega)
  have e3 : (l.take k ++ [x]).length = k + 1 := by simp [ht]
  rw [e3] at r3 o3
  obtain ⟨h9, h8⟩ := own_rowQ o3
  exact ⟨A1, c1, w2, r1, x1, A2, c2, w3, r2, A3, c3, w4, r3, h9, h8, x3⟩
def PlR (w1 : World) (l : List Ct) (x : Ct) (s5 : Value) (W : World) : Prop := ∃ k : Nat, k ≤ l.length ∧ s5 = .int .i64 k ∧ (∀ y ∈ l.take k, CLt y x) ∧ Ext w1 W
set_option maxHeartbeats 4000000 in
set_option maxRecDepth 100000 in
theorem placec_any (P : Nat → Prop) (w : World) (l : List Ct) (x : Ct) (A : Option Addr) (n c : Nat) (h : kCt.row w P A n l) (hc : n ≤ c) (hn : n ≤ 40000000) :
    Calls Tryz.prog 120 #[.slice A n c, ctV x] w fun e w' => ∃ A' n' c', e = .returned (.slice A' n' c') ∧ n' ≤ c' ∧ kCt.row w' (fun j => P j ∨ w.heap.size ≤ j) A' n' (placeP l x) ∧ Ext w w' := by
  have HL := Lib.hid (Lay.row_len h)
  have HA := Lib.hid (fun e => row_A h e)
  have HBF := Lib.hid (fun (W : World) (y : Ct) => (show Calls Tryz.prog 71 #[.agg #[.int .i64 y.br, .int .i64 y.nu, .int .i64 y.su, .int .i64 y.li], .agg #[.int .i64 x.br, .int .i64 x.nu, .int .i64 x.su, .int .i64 x.li]] W fun e w' => e = .returned (.bool (decide (CLt y x))) ∧ Ext W w' from rbefore_any y x W))
  unfold ctV
  obtain ⟨z, hz⟩ : ∃ z, w.heap.size = z := ⟨_, rfl⟩
  obtain ⟨w1, hw1⟩ : ∃ w1, w.alloc (.cells #[.int .i64 x.br, .int .i64 x.nu, .int .i64 x.su, .int .i64 x.li] 69) = w1 := ⟨_, rfl⟩
  have hx1 : Ext w w1 := by rw [← hw1]; exact (Ext.refl w).alloc _
  have hB : w1.heap[z]? = some (.cells #[.int .i64 x.br, .int .i64 x.nu, .int .i64 x.su, .int .i64 x.li] 69 (0, 0)) := by rw [← hw1, ← hz]; exact heap_alloc_new _ _
  have hzl := lt_of_block hB
  have HQ := Lib.hid (fun X (hX : Ext w1 X) => (show X.cell? ⟨z, 0, none⟩ = some (.int .i64 x.br) ∧ X.cell? ⟨z, 1, none⟩ = some (.int .i64 x.nu) ∧ X.cell? ⟨z, 2, none⟩ = some (.int .i64 x.su) ∧ X.cell? ⟨z, 3, none⟩ = some (.int .i64 x.li) from
    have h9 := (hX.block _ hzl).trans hB
    ⟨cell_of h9 (i := 0) rfl, cell_of h9 (i := 1) rfl, cell_of h9 (i := 2) rfl, cell_of h9 (i := 3) rfl⟩))
  have HR1 := Lib.hid (Lay.row_ext h hx1)
  have HR := Lib.hid (fun X (hX : Ext w1 X) => Lay.row_ext (Lay.row_ext h hx1) hX)
  have HX1 := Lib.hid hx1
  have HZ := Lib.hid (show w.heap.size ≤ w1.heap.size from hx1.lt)
  have HRW := Lib.hid h
  clear h hx1 hB hzl
  go_enter Tryz.func120, Tryz.ntmps120
  go_upto_region 1 with (fail)
  clear hw1 hz
  go_wp2_with fail
  go_loopw [5] (fun s5 W => PlR w1 l x s5 W) (fun s5 _ => toM n s5)
  case atStart => exact ⟨0, by omega, rfl, by simp, Ext.refl _⟩
  case round =>
    obtain ⟨k, hk, rfl, hp, hxr⟩ := hrel
    rw [← HL.out] at hk
    have HP := Lib.hid hp
    have HX := Lib.hid hxr
    clear hp hxr
    obtain ⟨T, hT⟩ : ∃ T : Bool, (match l[k]? with | some y => decide (CLt y x) | none => false) = T := ⟨_, rfl⟩
    have HT := Lib.hid hT
    clear hT
    go_upto_region 2 with (fail)
    go_cut [18] (fun s18 wx => s18 = .bool T ∧ Ext w1 wx)
    case first =>
      by_cases hkn : k < n
      case neg =>
        have hkn' : ¬ ((k : Int) < (n : Int)) := by omega
        have hknb : decide ((k : Int) < (n : Int)) = false := decide_eq_false hkn'
        have hTf : T = false := by rw [← HT.out, List.getElem?_eq_none (by have := HL.out; omega)]
        subst hTf
        go_quiet (fail)
        go_wp2
        go_meet
        case rel => exact ⟨rfl, HX.out.drewN _⟩
      have hkI : (k : Int) < (n : Int) := by omega
      obtain ⟨y, hy⟩ : ∃ y, l[k]? = some y := ⟨_, List.getElem?_eq_getElem (by have := HL.out; omega)⟩
      obtain ⟨b, off, rfl, hb, _, a0, a1, a2, a3⟩ := ct_at (HR.out _ HX.out) hy
      have hTe : decide (CLt y x) = T := by have := HT.out; rw [hy] at this; exact this
      have HBY := Lib.hid (fun W => HBF.out W y)
      rw [hTe] at HBY
      have HQ2 := Lib.hid (fun X (hX : Ext wr X) => (show (X.cell? ⟨z, 0, none⟩ = some (.int .i64 x.br) ∧ X.cell? ⟨z, 1, none⟩ = some (.int .i64 x.nu) ∧ X.cell? ⟨z, 2, none⟩ = some (.int .i64 x.su) ∧ X.cell? ⟨z, 3, none⟩ = some (.int .i64 x.li)) ∧
          X.cell? ⟨b, off + k * 4, none⟩ = some (.int .i64 y.br) ∧ X.cell? ⟨b, off + k * 4 + 1, none⟩ = some (.int .i64 y.nu) ∧ X.cell? ⟨b, off + k * 4 + 2, none⟩ = some (.int .i64 y.su) ∧ X.cell? ⟨b, off + k * 4 + 3, none⟩ = some (.int .i64 y.li) from
        ⟨HQ.out X (HX.out.trans hX), (hX.cells.1 b _ hb).trans a0, (hX.cells.1 b _ hb).trans a1, (hX.cells.1 b _ hb).trans a2, (hX.cells.1 b _ hb).trans a3⟩))
      clear a0 a1 a2 a3 hy hTe
      have hcur : Ext wr wr.drew := (Ext.refl _).drew
      go_region_held3 (fun X => (X.cell? ⟨z, 0, none⟩ = some (.int .i64 x.br) ∧ X.cell? ⟨z, 1, none⟩ = some (.int .i64 x.nu) ∧ X.cell? ⟨z, 2, none⟩ = some (.int .i64 x.su) ∧ X.cell? ⟨z, 3, none⟩ = some (.int .i64 x.li)) ∧
          X.cell? ⟨b, off + k * 4, none⟩ = some (.int .i64 y.br) ∧ X.cell? ⟨b, off + k * 4 + 1, none⟩ = some (.int .i64 y.nu) ∧ X.cell? ⟨b, off + k * 4 + 2, none⟩ = some (.int .i64 y.su) ∧ X.cell? ⟨b, off + k * 4 + 3, none⟩ = some (.int .i64 y.li))
        (exact HQ2.out _ hcur) (first | (go_at_call 71; refine (HBY.out _).mono ?_; rintro e w9 ⟨rfl, hx9⟩; have hcur := hcur.trans hx9))
      all_goals
        go_wp2
        go_meet
        case rel => exact ⟨rfl, HX.out.trans hcur⟩
    case rest =>
      obtain ⟨rfl, hxc⟩ := hcut
      have HXC := Lib.hid hxc
      clear hxc HX
      cases T with
      | true =>
        have hkn : k < n := by
          rcases Nat.lt_or_ge k n with h9 | h9
          · exact h9
          · have := HT.out; rw [List.getElem?_eq_none (by have := HL.out; omega)] at this; cases this
        have HNX := Lib.hid (show ∀ y ∈ l.take (k + 1), CLt y x from by
          obtain ⟨y, hy⟩ : ∃ y, l[k]? = some y := ⟨_, List.getElem?_eq_getElem (by have := HL.out; omega)⟩
          have h9 := HT.out
          rw [hy] at h9
          intro y' hy'
          rw [List.take_add_one, hy] at hy'
          rcases List.mem_append.1 hy' with h8 | h8
          · exact HP.out y' h8
          · simp only [Option.toList_some, List.mem_singleton] at h8
            subst h8; simpa using h9)
        go_wp2_with fail
        go_roundw
        case rel => exact ⟨k + 1, by have := HL.out; omega, by go_num, HNX.out, HXC.out⟩
        case measure => simp only [toM]; omega
      | false =>
        have HFN := Lib.hid (fun X (hX : Ext w1 X) => pl_runs P w1 X l x A n c k HR1.out hX hk hc hn)
        have hs1 := fun W => hi38 A n c k hk hc HA.out W
        have hs2 := fun W => lo38 A n c k hk hc HA.out W
        generalize (A.map fun a => if c = k then a else a.add (k * 4)) = B at HFN hs2
        generalize c - k = ck at HFN hs2
        generalize n - k = nk at HFN hs2
        by_cases hkn : k < n
        · obtain ⟨y, hy⟩ : ∃ y, l[k]? = some y := ⟨_, List.getElem?_eq_getElem (by have := HL.out; omega)⟩
          have hny : ¬ CLt y x := by have := HT.out; rw [hy] at this; simpa using this
          have HPL := Lib.hid (place_here HP.out hy hny)
          obtain ⟨b, off, rfl, hb, _, a0, a1, a2, a3⟩ := ct_at (HR.out _ HXC.out) hy
          obtain ⟨q0, q1, q2, q3⟩ := HQ.out _ HXC.out
          have hkI : (k : Int) < (n : Int) := by omega
          clear hy hny
          by_cases hyx : y = x
          · have d : ∀ W, (binOp .eql 69 (.agg #[.int .i64 y.br, .int .i64 y.nu, .int .i64 y.su, .int .i64 y.li]) (.agg #[.int .i64 x.br, .int .i64 x.nu, .int .i64 x.su, .int .i64 x.li])).run Tryz.prog W = .ok (.bool true) W := fun W => by
              have := eql_ct y x W; rw [decide_eq_true hyx] at this; exact this
            have HPE := Lib.hid (HPL.out.trans (if_pos hyx))
            clear hyx hs1 hs2
            go_upto_region 4 with (fail)
            go_quiet (fail)
            go_wp2_with fail
            go_ret
            refine ⟨_, n, c, rfl, hc, ?_, HX1.out.trans (HXC.out.drewN _)⟩
            rw [HPE.out]
            exact Lay.row_mono (HR.out _ (HXC.out.drewN _)) fun j hj _ => .inl hj
          · have d : ∀ W, (binOp .eql 69 (.agg #[.int .i64 y.br, .int .i64 y.nu, .int .i64 y.su, .int .i64 y.li]) (.agg #[.int .i64 x.br, .int .i64 x.nu, .int .i64 x.su, .int .i64 x.li])).run Tryz.prog W = .ok (.bool false) W := fun W => by
              have := eql_ct y x W; rw [decide_eq_false hyx] at this; exact this
            have HPE := Lib.hid (HPL.out.trans (if_neg hyx))
            clear hyx
            go_upto_region 4 with (fail)
            go_quiet (fail)
            obtain ⟨A1, c1, w2, r1, x2, A2, c2, w3, r2, A3, c3, w4, r3, hc3, hrow, x4⟩ := HFN.out _ (HXC.out.drewN nq)
            have R1 := Lib.hid r1
            have R2 := Lib.hid r2
            have R3 := Lib.hid r3
            clear r1 r2 r3 q0 q1 q2 q3
            obtain ⟨q0, q1, q2, q3⟩ := HQ.out _ x2
            have HRO := Lib.hid hrow
            have HX4 := Lib.hid x4
            clear hrow x2 x4
            go_wp2_with (first
              | (at_builtin; refine wpList_append_run (s := .tmp 34) (x := .tmp 37) R1.out rfl rfl rfl rfl rfl ?_)
              | (at_builtin; refine wpList_append_run (s := .tmp 39) (x := .tmp 41) R2.out rfl rfl rfl rfl rfl ?_)
              | (at_builtin; refine wpList_append_run (s := .tmp 43) (x := .tmp 46) R3.out rfl rfl rfl rfl rfl ?_))
            go_ret
            refine ⟨A3, _, c3, rfl, hc3, ?_, HX1.out.trans HX4.out⟩
            rw [HPE.out]
            exact Lay.row_mono HRO.out fun j hj _ => hj.imp id (Nat.le_trans HZ.out)
        · obtain rfl : k = n := by omega
          have hkn' : ¬ ((k : Int) < (k : Int)) := by omega
          have hknb : decide ((k : Int) < (k : Int)) = false := decide_eq_false hkn'
          have HPE := Lib.hid (show placeP l x = l.take k ++ [x] ++ l.drop k from by
            have hp := HP.out
            rw [HL.out, List.take_length] at hp
            rw [HL.out, List.take_length, List.drop_length, List.append_nil]
            exact place_end hp)
          go_upto_region 4 with (fail)
          go_quiet (fail)
          obtain ⟨A1, c1, w2, r1, x2, A2, c2, w3, r2, A3, c3, w4, r3, hc3, hrow, x4⟩ := HFN.out _ (HXC.out.drewN nq)
          have R1 := Lib.hid r1
          have R2 := Lib.hid r2
          have R3 := Lib.hid r3
          clear r1 r2 r3
          obtain ⟨q0, q1, q2, q3⟩ := HQ.out _ x2
          have HRO := Lib.hid hrow
          have HX4 := Lib.hid x4
          clear hrow x2 x4
          go_wp2_with (first
            | (at_builtin; refine wpList_append_run (s := .tmp 34) (x := .tmp 37) R1.out rfl rfl rfl rfl rfl ?_)
            | (at_builtin; refine wpList_append_run (s := .tmp 39) (x := .tmp 41) R2.out rfl rfl rfl rfl rfl ?_)
            | (at_builtin; refine wpList_append_run (s := .tmp 43) (x := .tmp 46) R3.out rfl rfl rfl rfl rfl ?_))
          go_ret
          refine ⟨A3, _, c3, rfl, hc3, ?_, HX1.out.trans HX4.out⟩
          rw [HPE.out]
          exact Lay.row_mono HRO.out fun j hj _ => hj.imp id (Nat.le_trans HZ.out)
end Go.Proofs.YtdbnddmncbjobaaGreatDoor

/- seal.selected and seal.Groups: walked. -/
namespace Go.Proofs.YtdbnddmncbjobaaGreatDoor
open Go Go.RowKit
attribute [local go_sem] Oper.semAt_some

def seaCs (s : Sea) : List Value := [.int .i64 s.ent, .int .i64 s.ver, .int .i64 s.fr, .int .i64 s.un, .int .i64 s.gr]
def kSea : Lay Sea where
  sz := 5
  rep _ _ s cs := cs = seaCs s
  len h := by subst h; rfl
  one h := by subst h; intro u hu; simp only [seaCs, List.mem_cons, List.not_mem_nil, or_false] at hu; rcases hu with rfl | rfl | rfl | rfl | rfl <;> rfl
  keep h _ _ := h
  mono h _ := h
theorem info48 : (Tryz.prog.info? 48).map (fun i => (i.zero, i.size, i.bytes)) = some (some (Value.agg #[.int .i64 0, .int .i64 0, .int .i64 0, .int .i64 0, .int .i64 0]), 5, 40) := by kernel_rfl
theorem sea_at {W : World} {P : Nat → Prop} {A : Option Addr} {n : Nat} {xs : List Sea} (h : kSea.row W P A n xs) {i : Nat} {x : Sea} (hi : xs[i]? = some x) :
    ∃ b off, A = some ⟨b, off, none⟩ ∧ b < W.heap.size ∧ W.cell? ⟨b, off + i * 5, none⟩ = some (.int .i64 x.ent) ∧ W.cell? ⟨b, off + i * 5 + 1, none⟩ = some (.int .i64 x.ver) ∧ W.cell? ⟨b, off + i * 5 + 2, none⟩ = some (.int .i64 x.fr) ∧ W.cell? ⟨b, off + i * 5 + 3, none⟩ = some (.int .i64 x.un) ∧ W.cell? ⟨b, off + i * 5 + 4, none⟩ = some (.int .i64 x.gr) := by
  obtain ⟨b, off, cs, rfl, hb, _, hrep, hc⟩ := Lay.row_at h hi
  have e : cs = seaCs x := hrep
  subst e
  exact ⟨b, off, rfl, hb, hc 0 _ rfl, hc 1 _ rfl, hc 2 _ rfl, hc 3 _ rfl, hc 4 _ rfl⟩
set_option maxHeartbeats 4000000 in
set_option maxRecDepth 100000 in
theorem clo75 (X : World) (z1 z2 z3 : Nat) (e v k : Int) (s : Sea) (h1 : X.cell? ⟨z1, 0, none⟩ = some (.int .i64 e)) (h2 : X.cell? ⟨z2, 0, none⟩ = some (.int .i64 v)) (h3 : X.cell? ⟨z3, 0, none⟩ = some (.int .i64 k)) :
    Calls Tryz.prog 75 #[.agg #[.int .i64 s.ent, .int .i64 s.ver, .int .i64 s.fr, .int .i64 s.un, .int .i64 s.gr], .pointer (some ⟨z1, 0, none⟩), .pointer (some ⟨z2, 0, none⟩), .pointer (some ⟨z3, 0, none⟩)] X (fun z X' => z = .returned (.bool (covS s e v k)) ∧ Ext X X') := by
  obtain ⟨s0, s1, s2, s3, s4⟩ := s
  have hx : Ext X (X.alloc (.cells #[.int .i64 s0, .int .i64 s1, .int .i64 s2, .int .i64 s3, .int .i64 s4] 48)) := (Ext.refl X).alloc _
  have HX := Lib.hid hx
  obtain ⟨r, hr⟩ : ∃ r, covS ⟨s0, s1, s2, s3, s4⟩ e v k = r := ⟨_, rfl⟩
  rw [hr]
  unfold covS at hr
  simp only at hr
  have c1 := fun o => (((Ext.refl X).alloc o).cells.1 z1 0 (World.block_lt_of_cell? _ _ h1)).trans h1
  have c2 := fun o => (((Ext.refl X).alloc o).cells.1 z2 0 (World.block_lt_of_cell? _ _ h2)).trans h2
  have c3 := fun o => (((Ext.refl X).alloc o).cells.1 z3 0 (World.block_lt_of_cell? _ _ h3)).trans h3
  clear hx
  by_cases g1 : s0 = e
  · have b1 : (s0 == e) = true := by simpa using g1
    by_cases g2 : s1 = v
    · have b2 : (s1 == v) = true := by simpa using g2
      by_cases g3 : s2 ≤ k
      · have b3 : decide (s2 ≤ k) = true := by simpa using g3
        have HR := Lib.hid (show r = decide (k < s3) by rw [← hr]; simp [g1, g2, g3])
        clear hr g1 g2 g3
        go_enter Tryz.func75, Tryz.ntmps75
        go_wp2_with fail
        go_ret
        exact ⟨by rw [HR.out]; rfl, HX.out⟩
      · have b3 : decide (s2 ≤ k) = false := by simpa using g3
        have HR := Lib.hid (show r = false by rw [← hr]; simp [g1, g2, g3])
        clear hr g1 g2 g3
        go_enter Tryz.func75, Tryz.ntmps75
        go_wp2_with fail
        go_ret
        exact ⟨by rw [HR.out]; rfl, HX.out⟩
    · have b2 : (s1 == v) = false := by simpa using g2
      have HR := Lib.hid (show r = false by rw [← hr]; simp [g1, g2])
      clear hr g1 g2
      go_enter Tryz.func75, Tryz.ntmps75
      go_wp2_with fail
      go_ret
      exact ⟨by rw [HR.out]; rfl, HX.out⟩
  · have b1 : (s0 == e) = false := by simpa using g1
    have HR := Lib.hid (show r = false by rw [← hr]; simp [g1])
    clear hr g1
    go_enter Tryz.func75, Tryz.ntmps75
    go_wp2_with fail
    go_ret
    exact ⟨by rw [HR.out]; rfl, HX.out⟩
def SeR (w : World) (p : Sea → Bool) (l : List Sea) (s5 s10 : Value) (W : World) : Prop := ∃ (i : Nat) (A : Option Addr) (c : Nat), i ≤ l.length ∧ s10 = .int .i64 i ∧ s5 = .slice A ((l.take i).filter p).length c ∧ kSea.own 48 W w.heap.size (fun _ => False) s5 ((l.take i).filter p) ∧ Ext w W
theorem sea_app {w X : World} {A : Option Addr} {m c : Nat} {xs : List Sea} (h : kSea.own 48 X w.heap.size (fun _ => False) (.slice A m c) xs) (hm : m = xs.length) (hx : Ext w X) (x : Sea) (hl : m ≤ 1000000) :
    ∃ A' c' w', (Builtin.append_ #[28, 28] 28 #[.slice A m c, .slice (some ⟨X.heap.size, 0, none⟩) 1 1]).run Tryz.prog (X.alloc (.cells #[.int .i64 x.ent, .int .i64 x.ver, .int .i64 x.fr, .int .i64 x.un, .int .i64 x.gr] 48)) = .ok (.slice A' (m + 1) c') w' ∧ kSea.own 48 w' w.heap.size (fun _ => False) (.slice A' (m + 1) c') (xs ++ [x]) ∧ Ext w w' := by
  subst hm
  obtain ⟨A', c', w', r1, r2, r3, _⟩ := own_app1 (k := kSea) (Pr := Tryz.prog) (t := 28) (e := 48) Tryz.underlying28 info48 rfl (by decide) (by omega) h hx.lt (cs := #[.int .i64 x.ent, .int .i64 x.ver, .int .i64 x.fr, .int .i64 x.un, .int .i64 x.gr]) (T := 48) (x := x) rfl 1 (by omega)
  exact ⟨A', c', w', r1, r2, Below.trans hx (r3 _ (Nat.le_refl _))⟩
set_option maxHeartbeats 4000000 in
set_option maxRecDepth 100000 in
theorem selected_any (P : Nat → Prop) (w : World) (A : Option Addr) (n c : Nat) (l : List Sea) (p : Sea → Bool) (p1 p2 p3 : Value) (h : kSea.row w P A n l) (hn : n ≤ 1000000)
    (hc : ∀ X (s : Sea), Ext w X → Calls Tryz.prog 75 #[.agg #[.int .i64 s.ent, .int .i64 s.ver, .int .i64 s.fr, .int .i64 s.un, .int .i64 s.gr], p1, p2, p3] X (fun z X' => z = .returned (.bool (p s)) ∧ Ext X X')) :
    Calls Tryz.prog 74 #[.slice A n c, .func (.func 75) #[] #[p1, p2, p3]] w fun e w' => ∃ A' c', e = .returned (.slice A' (l.filter p).length c') ∧ kSea.row w' (fun j => w.heap.size ≤ j) A' (l.filter p).length (l.filter p) ∧ Ext w w' := by
  have HL := Lib.hid (Lay.row_len h)
  have HR := Lib.hid h
  have HC := Lib.hid hc
  clear h hc
  go_enter Tryz.func74, Tryz.ntmps74
  go_wp2_with fail
  go_loopw [5, 10] (fun s5 s10 W => SeR w p l s5 s10 W) (fun _ s10 _ => toM n s10)
  case atStart => exact ⟨0, none, 0, by omega, rfl, rfl, Lay.own_nil _ _ _ _ _, Ext.refl _⟩
  case round =>
    obtain ⟨i, A1, c1, hi, rfl, rfl, ho, hx⟩ := hrel
    rw [← HL.out] at hi
    have HO := Lib.hid ho
    have HX := Lib.hid hx
    clear ho hx
    have hw1 : IntKind.i64.wrap ((i : Int) + 1) = (i : Int) + 1 := IntWalk.i64_in _ (by omega)
    have hml : ((l.take i).filter p).length ≤ i := Nat.le_trans (List.length_filter_le _ _) (by rw [List.length_take]; exact Nat.min_le_left _ _)
    obtain ⟨m, hm⟩ : ∃ m, ((l.take i).filter p).length = m := ⟨_, rfl⟩
    rw [hm] at HO hml ⊢
    have HM := Lib.hid hm.symm
    clear hm
    by_cases hlt : i < n
    case neg =>
      have hni : ¬ ((i : Int) < (n : Int)) := by omega
      have HF := Lib.hid (show l.take i = l from List.take_of_length_le (by have := HL.out; omega))
      go_wp2_with fail
      go_ret
      have ho9 := HO.out
      have hm9 := HM.out
      rw [HF.out] at ho9 hm9
      subst hm9
      obtain ⟨_, hr9⟩ := own_rowQ ho9
      exact ⟨A1, ⟨c1, rfl⟩, Lay.row_mono hr9 fun j hj _ => hj.elim False.elim id, HX.out⟩
    have hI : (i : Int) < (n : Int) := by omega
    obtain ⟨s, hs⟩ : ∃ s, l[i]? = some s := ⟨_, List.getElem?_eq_getElem (by have := HL.out; omega)⟩
    obtain ⟨b, off, rfl, hb, a0, a1, a2, a3, a4⟩ := sea_at (Lay.row_ext HR.out HX.out) hs
    have y0 := fun o => (((Ext.refl wr).alloc o).cells.1 b _ hb).trans a0
    have y1 := fun o => (((Ext.refl wr).alloc o).cells.1 b _ hb).trans a1
    have y2 := fun o => (((Ext.refl wr).alloc o).cells.1 b _ hb).trans a2
    have y3 := fun o => (((Ext.refl wr).alloc o).cells.1 b _ hb).trans a3
    have y4 := fun o => (((Ext.refl wr).alloc o).cells.1 b _ hb).trans a4
    obtain ⟨z, hz⟩ : ∃ z, wr.heap.size = z := ⟨_, rfl⟩
    obtain ⟨w2, hw2⟩ : ∃ w2, wr.alloc (.cells #[.int .i64 s.ent, .int .i64 s.ver, .int .i64 s.fr, .int .i64 s.un, .int .i64 s.gr] 48) = w2 := ⟨_, rfl⟩
    have hx2 : Ext wr w2 := by rw [← hw2]; exact (Ext.refl wr).alloc _
    have hB : w2.heap[z]? = some (.cells #[.int .i64 s.ent, .int .i64 s.ver, .int .i64 s.fr, .int .i64 s.un, .int .i64 s.gr] 48 (0, 0)) := by rw [← hw2, ← hz]; exact heap_alloc_new _ _
    have HB := Lib.hid hB
    have HX2 := Lib.hid (HX.out.trans hx2)
    have HXW := Lib.hid hx2
    have e0 := cell_of hB (i := 0) rfl
    have e1 := cell_of hB (i := 1) rfl
    have e2 := cell_of hB (i := 2) rfl
    have e3 := cell_of hB (i := 3) rfl
    have e4 := cell_of hB (i := 4) rfl
    have HCC := Lib.hid (HC.out w2 s HX2.out)
    have hts : l.take (i + 1) = l.take i ++ [s] := by rw [List.take_add_one, hs]; rfl
    cases hp : p s with
    | false =>
      have HST := Lib.hid (show (l.take (i + 1)).filter p = (l.take i).filter p by rw [hts, List.filter_append]; simp [hp])
      rw [hp] at HCC
      clear hts hp hs hx2 hB
      go_wp2_with (first | (go_at_call 75; refine (HCC.out).mono ?_; rintro e w3 ⟨rfl, hx3⟩; have HX3 := Lib.hid hx3; clear hx3))
      go_roundw
      case rel => exact ⟨i + 1, A1, c1, by have := HL.out; omega, by go_num, by rw [HST.out, ← HM.out], by rw [HST.out]; exact Lay.own_ext HO.out (HXW.out.trans HX3.out), HX2.out.trans HX3.out⟩
      case measure => simp only [toM]; omega
    | true =>
      have HST := Lib.hid (show (l.take (i + 1)).filter p = (l.take i).filter p ++ [s] by rw [hts, List.filter_append]; simp [hp])
      rw [hp] at HCC
      clear hts hp hs hx2 hB e0 e1 e2 e3 e4
      have e0 := cell_of HB.out (i := 0) rfl
      have e1 := cell_of HB.out (i := 1) rfl
      have e2 := cell_of HB.out (i := 2) rfl
      have e3 := cell_of HB.out (i := 3) rfl
      have e4 := cell_of HB.out (i := 4) rfl
      go_upto_region 6 with (first | (go_at_call 75; refine (HCC.out).mono ?_; rintro e w3 ⟨rfl, hx3⟩; have HX3 := Lib.hid hx3; clear hx3))
      clear e0 e1 e2 e3 e4
      have hB3 := (HX3.out.block _ (lt_of_block HB.out)).trans HB.out
      have e0 := cell_of hB3 (i := 0) rfl
      have e1 := cell_of hB3 (i := 1) rfl
      have e2 := cell_of hB3 (i := 2) rfl
      have e3 := cell_of hB3 (i := 3) rfl
      have e4 := cell_of hB3 (i := 4) rfl
      obtain ⟨A', c', w4, hrun, ho4, hx4⟩ := sea_app (Lay.own_ext HO.out (HXW.out.trans HX3.out)) HM.out (HX2.out.trans HX3.out) s (by omega)
      have RUN := Lib.hid hrun
      have HO4 := Lib.hid ho4
      have HX4 := Lib.hid hx4
      clear hrun ho4 hx4 hB3
      go_wp2_with (first | (at_builtin; refine wpList_append_run (s := .tmp 17) (x := .tmp 19) RUN.out rfl rfl rfl rfl rfl ?_))
      go_roundw
      case rel => exact ⟨i + 1, A', c', by have := HL.out; omega, by go_num, by rw [HST.out, List.length_append, ← HM.out]; rfl, by rw [HST.out]; exact HO4.out, HX4.out⟩
      case measure => simp only [toM]; omega
theorem or_pos {g : Int} {r : Nat} (h0 : 0 ≤ g) (h1 : g ≤ 65535) (hr : r ≤ 15) : ∃ g' : Int, 0 < g' ∧ g' ≤ 65535 ∧ bits BinOp.or IntKind.i64 g (2 ^ r) = g' := by
  obtain ⟨a, rfl⟩ : ∃ a : Nat, g = a := ⟨g.toNat, by omega⟩
  have ha : a < 2 ^ 16 := by omega
  have hb : 2 ^ r < 2 ^ 16 := Nat.pow_lt_pow_right (by omega) (by omega)
  have e1 : (BitVec.ofInt 64 (a : Int)).toNat = a := by
    rw [BitVec.ofInt_natCast, BitVec.toNat_ofNat]; exact Nat.mod_eq_of_lt (by omega)
  have e2 : (BitVec.ofInt 64 (2 ^ r : Int)).toNat = 2 ^ r := by
    rw [show (2 ^ r : Int) = ((2 ^ r : Nat) : Int) by simp, BitVec.ofInt_natCast, BitVec.toNat_ofNat]; exact Nat.mod_eq_of_lt (by omega)
  have e3 : (BitVec.ofInt 64 (a : Int) ||| BitVec.ofInt 64 (2 ^ r)).toNat = a ||| 2 ^ r := by rw [BitVec.toNat_or, e1, e2]
  have h3 : a ||| 2 ^ r < 2 ^ 16 := Nat.or_lt_two_pow ha hb
  have h4 : 2 ^ r ≤ a ||| 2 ^ r := Nat.right_le_or
  have h5 : 0 < 2 ^ r := Nat.pow_pos (by omega)
  refine ⟨((a ||| 2 ^ r : Nat) : Int), by omega, by omega, ?_⟩
  show IntKind.i64.wrap (((BitVec.ofInt 64 (a : Int) ||| BitVec.ofInt 64 (2 ^ r)).toNat : Nat) : Int) = _
  rw [e3]
  exact IntWalk.i64_in _ (by omega)
def GrR (w : World) (l : List Sea) (s9 s16 : Value) (W : World) : Prop := ∃ (i : Nat) (g : Int), i ≤ l.length ∧ s16 = .int .i64 i ∧ s9 = .int .i64 g ∧ 0 ≤ g ∧ g ≤ 65535 ∧ (g = 0 ↔ i = 0) ∧ Ext w W
set_option maxHeartbeats 4000000 in
set_option maxRecDepth 100000 in
theorem groups_any (P : Nat → Prop) (w : World) (A : Option Addr) (n c : Nat) (l : List Sea) (e v k : Int) (h : kSea.row w P A n l) (hn : n ≤ 1000000) (hg : ∀ s ∈ l, 0 ≤ s.gr ∧ s.gr ≤ 15) :
    Calls Tryz.prog 34 #[.slice A n c, .int .i64 e, .int .i64 v, .int .i64 k] w fun z w' => ∃ g : Int, z = .returned (.int .i64 g) ∧ (g = 0 ↔ seald l e v k = false) ∧ Ext w w' := by
  obtain ⟨b, hb⟩ : ∃ b, w.heap.size = b := ⟨_, rfl⟩
  obtain ⟨w1, hw1⟩ : ∃ w1, ((w.alloc (.cells #[.int .i64 e] 3)).alloc (.cells #[.int .i64 v] 3)).alloc (.cells #[.int .i64 k] 3) = w1 := ⟨_, rfl⟩
  have hx1 : Ext w w1 := by rw [← hw1]; exact (((Ext.refl w).alloc _).alloc _).alloc _
  have hB0 : w1.heap[b]? = some (.cells #[.int .i64 e] 3 (0, 0)) := by
    rw [← hw1, ← hb, heap_alloc_old _ _ _ (by simp; omega), heap_alloc_old _ _ _ (by simp)]; exact heap_alloc_new _ _
  have hB1 : w1.heap[b + 1]? = some (.cells #[.int .i64 v] 3 (0, 0)) := by
    rw [← hw1, ← hb, heap_alloc_old _ _ _ (by simp)]; exact heap_alloc_at _ _ _ _ (by simp)
  have hB2 : w1.heap[b + 1 + 1]? = some (.cells #[.int .i64 k] 3 (0, 0)) := by
    rw [← hw1, ← hb]; exact heap_alloc_at _ _ _ _ (by simp)
  have HSE := Lib.hid (selected_any P w1 A n c l (fun s => covS s e v k) (.pointer (some ⟨b, 0, none⟩)) (.pointer (some ⟨b + 1, 0, none⟩)) (.pointer (some ⟨b + 1 + 1, 0, none⟩)) (Lay.row_ext h hx1) hn fun X s hX => clo75 X b (b + 1) (b + 1 + 1) e v k s (cell_of ((hX.block _ (lt_of_block hB0)).trans hB0) rfl) (cell_of ((hX.block _ (lt_of_block hB1)).trans hB1) rfl) (cell_of ((hX.block _ (lt_of_block hB2)).trans hB2) rfl))
  have HX1 := Lib.hid hx1
  obtain ⟨F, hF⟩ : ∃ F, (l.filter fun s => covS s e v k) = F := ⟨_, rfl⟩
  have HFG := Lib.hid (show ∀ s ∈ F, 0 ≤ s.gr ∧ s.gr ≤ 15 by rw [← hF]; exact fun s hs => hg s (List.mem_filter.1 hs).1)
  have HFS := Lib.hid (show seald l e v k = false ↔ F.length = 0 by
    rw [← hF, List.length_eq_zero_iff, List.filter_eq_nil_iff]
    unfold seald
    rw [List.any_eq_false])
  obtain ⟨m, hm⟩ : ∃ m, F.length = m := ⟨_, rfl⟩
  have hmn : m ≤ 1000000 := by rw [← hm, ← hF]; exact Nat.le_trans (List.length_filter_le _ _) (by rw [← Lay.row_len h]; exact hn)
  rw [hF, hm] at HSE
  rw [hm] at HFS
  have HM := Lib.hid hm
  clear h hg hx1 hB0 hB1 hB2 hF hm
  go_enter Tryz.func34, Tryz.ntmps34
  go_wp2_with (first | (go_at_call 74; refine (HSE.out).mono ?_; rintro z w2 ⟨A2, c2, rfl, hr2, hx2⟩; have HR2 := Lib.hid hr2; have HX2 := Lib.hid hx2; clear hr2 hx2))
  clear hw1 hb
  go_loopw [9, 16] (fun s9 s16 W => GrR w2 F s9 s16 W) (fun _ s16 _ => toM m s16)
  case atStart => exact ⟨0, 0, by omega, rfl, rfl, by omega, by omega, by simp, Ext.refl _⟩
  case round =>
    obtain ⟨i, g, hi, rfl, rfl, hg0, hg1, hgi, hx⟩ := hrel
    rw [HM.out] at hi
    have HX := Lib.hid hx
    have HGI := Lib.hid hgi
    clear hx hgi
    have hw1 : IntKind.i64.wrap ((i : Int) + 1) = (i : Int) + 1 := IntWalk.i64_in _ (by omega)
    by_cases hlt : i < m
    case neg =>
      have hni : ¬ ((i : Int) < (m : Int)) := by omega
      go_wp2_with fail
      go_ret
      exact ⟨g, rfl, by rw [HFS.out, HGI.out]; omega, HX1.out.trans (HX2.out.trans HX.out)⟩
    have hI : (i : Int) < (m : Int) := by omega
    obtain ⟨s, hs⟩ : ∃ s, F[i]? = some s := ⟨_, List.getElem?_eq_getElem (by have := HM.out; omega)⟩
    obtain ⟨hs0, hs1⟩ := HFG.out s (List.mem_of_getElem? hs)
    obtain ⟨r, hr⟩ : ∃ r : Nat, s.gr = r := ⟨s.gr.toNat, by omega⟩
    obtain ⟨g', hgp, hgl, hor⟩ := or_pos hg0 hg1 (r := r) (by omega)
    obtain ⟨b2, off, rfl, hb2, a0, a1, a2, a3, a4⟩ := sea_at (Lay.row_ext HR2.out HX.out) hs
    rw [hr] at a4
    have y0 := fun o => (((Ext.refl wr).alloc o).cells.1 b2 _ hb2).trans a0
    have y1 := fun o => (((Ext.refl wr).alloc o).cells.1 b2 _ hb2).trans a1
    have y2 := fun o => (((Ext.refl wr).alloc o).cells.1 b2 _ hb2).trans a2
    have y3 := fun o => (((Ext.refl wr).alloc o).cells.1 b2 _ hb2).trans a3
    have y4 := fun o => (((Ext.refl wr).alloc o).cells.1 b2 _ hb2).trans a4
    have hpw : IntKind.i64.wrap (2 ^ r) = 2 ^ r := by
      have h9 : (2 : Nat) ^ r < 2 ^ 16 := Nat.pow_lt_pow_right (by omega) (by omega)
      obtain ⟨q, hq⟩ : ∃ q : Nat, 2 ^ r = q := ⟨_, rfl⟩
      have e : ((2 : Int) ^ r) = (q : Int) := by rw [← hq]; simp
      rw [hq] at h9
      rw [e]
      exact IntWalk.i64_in _ (by omega)
    have hmin : min r 64 = r := by omega
    have hrn : ¬ ((r : Int) < 0) := by omega
    clear hs hs0 hs1 hr
    have HGP := Lib.hid (And.intro hgp hgl)
    clear hgp hgl
    go_wp2_with fail
    go_roundw
    case rel => exact ⟨i + 1, g', by have := HM.out; omega, by go_num, rfl, by have := HGP.out; omega, HGP.out.2, by have := HGP.out; omega, HX.out.alloc _⟩
    case measure => simp only [toM]; omega
end Go.Proofs.YtdbnddmncbjobaaGreatDoor

/- Around and Pick of the third reference: the bodies of Hp's, under other numbers. -/
namespace Go.Proofs.YtdbnddmncbjobaaGreatDoor
open Go Go.RowKit

theorem around3_fn (n m : Int) (w : World) (h1 : -9223372036854775808 ≤ n) (h2 : n ≤ 9223372036854775807) (h3 : 1 ≤ m) (h4 : m ≤ 1000000000) :
    Calls Tryz.prog 17 #[.int .i64 n, .int .i64 m] w fun e w' => e = .returned (.int .i64 (arnd n m)) ∧ w = w' := by
  by_cases h : n < 0
  · have hb := neg_tmod_in n m h h3
    have HB := Lib.hid hb; clear hb
    have HE := Lib.hid (arnd_neg (m := m) h)
    go_enter Tryz.func17, Tryz.ntmps17
    go_wp2
    go_ret
    exact ⟨ret_int (by simpa using HE.out), rfl⟩
  · have HE := Lib.hid (arnd_pos (m := m) h)
    go_enter Tryz.func17, Tryz.ntmps17
    go_wp2
    go_ret
    exact ⟨ret_int (by simpa using HE.out), rfl⟩
set_option maxRecDepth 100000 in
theorem pick3_any (A : Option Addr) (c : Nat) (l : List Int) (i m : Nat) (w : World) (hm : 1 ≤ m) (hm2 : m ≤ 1000000000) (hb : ∀ n ∈ l, -9223372036854775808 ≤ n ∧ n ≤ 9223372036854775807) (h : SL icf 1 w A l.length l) :
    Calls Tryz.prog 65 #[.slice A l.length c, .int .i64 i, .int .i64 m] w fun e w' => e = .returned (.int .i64 (pkI l i m)) ∧ w = w' := by
  by_cases hil : i < l.length
  · obtain ⟨b, off, n, rfl, hbb, hn, hmem, hc⟩ := h.at hil
    have HP := Lib.hid (show pkI l i m = arnd n m by unfold pkI; rw [hn])
    have hc0 := hc 0 (.int .i64 n) rfl
    rw [Nat.mul_one, Nat.add_zero] at hc0
    have HA := Lib.hid (fun X => around3_fn n m X (hb n hmem).1 (hb n hmem).2 (by omega) (by omega))
    have hni : ¬ (l.length : Int) ≤ (i : Int) := by omega
    clear hc hn h
    go_enter Tryz.func65, Tryz.ntmps65
    go_wp2_with (first | (go_at_call 17; refine (HA.out _).mono ?_; rintro e w1 ⟨rfl, rfl⟩))
    go_ret
    exact ⟨ret_int (by rw [HP.out]), rfl⟩
  · have HP := Lib.hid (show pkI l i m = 0 by unfold pkI; rw [List.getElem?_eq_none (by omega)])
    have hni : (l.length : Int) ≤ (i : Int) := by omega
    clear h
    go_enter Tryz.func65, Tryz.ntmps65
    go_wp2
    go_ret
    exact ⟨ret_int (by rw [HP.out]), rfl⟩
end Go.Proofs.YtdbnddmncbjobaaGreatDoor

/- Seals made from numbers: walked. -/
namespace Go.Proofs.YtdbnddmncbjobaaGreatDoor
open Go Go.RowKit
attribute [local go_sem] Oper.semAt_some

/-- What the seals that are made bear. -/
def OkSea (s : Sea) : Prop := 0 ≤ s.gr ∧ s.gr ≤ 15
def SlR (w1 : World) (s5 s6 : Value) (W : World) : Prop := ∃ (i : Nat) (out : Value) (ls : List Sea), i ≤ 26 ∧ s6 = .int .i64 i ∧ out = s5 ∧ 3 * ls.length ≤ i ∧ (∀ s ∈ ls, OkSea s) ∧ kSea.own 48 W w1.heap.size (fun j => w1.heap.size ≤ j) out ls ∧ Ext w1 W
set_option maxHeartbeats 1000000 in
theorem eqIn_sea (d : Nat) (x y : Sea) (w : World) : (Op.equalIn (d + 1 + 1) 48 (.agg #[.int .i64 x.ent, .int .i64 x.ver, .int .i64 x.fr, .int .i64 x.un, .int .i64 x.gr]) (.agg #[.int .i64 y.ent, .int .i64 y.ver, .int .i64 y.fr, .int .i64 y.un, .int .i64 y.gr])).run Tryz.prog w = .ok (decide (x = y)) w := by
  obtain ⟨a, b, c, f, g⟩ := x
  obtain ⟨a', b', c', f', g'⟩ := y
  rw [Op.equalIn]
  simp [go_sem]
  by_cases h1 : a = a' <;> by_cases h2 : b = b' <;> by_cases h3 : c = c' <;> by_cases h4 : f = f' <;> by_cases h5 : g = g' <;> simp [h1, h2, h3, h4, h5]
theorem eql_sea (x y : Sea) (w : World) : (binOp .eql 48 (.agg #[.int .i64 x.ent, .int .i64 x.ver, .int .i64 x.fr, .int .i64 x.un, .int .i64 x.gr]) (.agg #[.int .i64 y.ent, .int .i64 y.ver, .int .i64 y.fr, .int .i64 y.un, .int .i64 y.gr])).run Tryz.prog w = .ok (.bool (decide (x = y))) w := by
  have h := eqIn_sea 9998 x y w
  simp only [binOp]
  simp [Op.equal, Op.maxDepth, h]
/-- What Seals gives. -/
def SealsGet (w : World) (e : Ending) (w' : World) : Prop := ∃ A1 n1 c1 ls, e = .returned (.slice A1 n1 c1) ∧ n1 ≤ c1 ∧ kSea.row w' (fun j => w.heap.size ≤ j) A1 n1 ls ∧ ls.length ≤ 8 ∧ (∀ s ∈ ls, OkSea s) ∧ Ext w w'
/-- The box of the section that was picked. -/
def SbC (w1 : World) (g : Nat) (c : Array Value) (T : TypeId) (s : Value) (wx : World) : Prop := ∃ z, g ≤ z ∧ s = .pointer (some ⟨z, 0, none⟩) ∧ wx.heap[z]? = some (.cells c T (0, 0)) ∧ Ext w1 wx
/-- Whether a seal was found among the first j. -/
def FoR (wd : World) (nl : Nat) (s11 s12 : Value) (W : World) : Prop := ∃ (j : Nat) (f : Bool), j ≤ nl ∧ s11 = .bool f ∧ s12 = .int .i64 j ∧ Ext wd W
set_option maxHeartbeats 8000000 in
set_option maxRecDepth 100000 in
theorem seals_any (P : Nat → Prop) (w : World) (b : Bk) (A B : Option Addr) (c N cB : Nat) (l : List Int) (hl : IL w A c l) (_hll : l.length ≤ 9223372036854775807) (hb : OkB b 4 3) (hr : kSe.row w P B N b.secs) :
    Calls Tryz.prog 54 #[.slice A l.length c, .agg #[.int .i64 b.ms, .int .i64 b.ht, .slice B N cB]] w (SealsGet w) := by
  have hN : N ≤ 4 := by have := Lay.row_len hr; have := hb.n; omega
  have HPK := Lib.hid (fun X (hX : Ext w X) (i m : Nat) hm hm2 => pick3_any A c l i m X hm hm2 hl.ok (hl.sl.ext hX))
  obtain ⟨m, hm⟩ : ∃ m, l.length = m := ⟨_, rfl⟩
  rw [hm] at HPK _hll ⊢
  clear hl hm
  obtain ⟨w1, hw1⟩ : ∃ w1, w.alloc (.cells #[.int .i64 b.ms, .int .i64 b.ht, .slice B N cB] 27) = w1 := ⟨_, rfl⟩
  have hx : Ext w w1 := by rw [← hw1]; exact (Ext.refl w).alloc _
  have hB : w1.heap[w.heap.size]? = some (.cells #[.int .i64 b.ms, .int .i64 b.ht, .slice B N cB] 27 (0, 0)) := by rw [← hw1]; exact heap_alloc_new w _
  have hbl : w.heap.size < w1.heap.size := lt_of_block hB
  have HQ := Lib.hid (fun X (hX : Ext w1 X) => (show X.cell? ⟨w.heap.size, 2, none⟩ = some (.slice B N cB) from cell_of ((hX.block _ hbl).trans hB) (i := 2) rfl))
  have HX := Lib.hid hx
  have HBL := Lib.hid hbl
  have HL := Lib.hid (Lay.row_len hr)
  have HR := Lib.hid (fun X (hX : Ext w1 X) => Lay.row_ext (Lay.row_ext hr hx) hX)
  have HB := Lib.hid hb
  clear hx hB hr hb hbl
  go_enter Tryz.func54, Tryz.ntmps54
  go_upto_region 1 with (fail)
  clear hw1
  go_wp2_with fail
  go_loopw [5, 6] (fun s5 s6 W => SlR w1 s5 s6 W) (fun _ s6 _ => toM 27 s6)
  case atStart => exact ⟨0, _, [], by omega, rfl, rfl, by simp, (fun s hs => by cases hs), Lay.own_nil _ _ _ _ _, Ext.refl _⟩
  case round =>
    obtain ⟨i, out, ls, hi, rfl, rfl, h3, hok, ho, hxr⟩ := hrel
    have HO := Lib.hid ho
    have HXR := Lib.hid hxr
    have HOK := Lib.hid hok
    have H3 := Lib.hid h3
    clear ho hxr hok h3
    have q2 := HQ.out _ HXR.out
    have hw2 : IntKind.i64.wrap ((i : Int) + 2) = (i : Int) + 2 := IntWalk.i64_in _ (by omega)
    by_cases hgo : (i + 2 < m ∧ i < 24) ∧ 0 < N
    case neg =>
      have hfin : ∃ A1 n1 c1, out = .slice A1 n1 c1 ∧ n1 ≤ c1 ∧ kSea.row wr (fun j => w.heap.size ≤ j) A1 n1 ls := by
        have hlt := Lay.own_lt HO.out
        obtain ⟨A9, c9, e9, h9, hr9⟩ := Lay.own_row HO.out
        exact ⟨A9, _, c9, e9, h9, Lay.row_mono hr9 fun j hj _ => by
          have := HX.out.lt
          rcases hj with hj | hj
          · omega
          · have := (hlt j hj).1; omega⟩
      obtain ⟨A1, n1, c1, rfl, hnc, hr1⟩ := hfin
      have HR1 := Lib.hid hr1
      have HNC := Lib.hid hnc
      clear hr1 hnc
      by_cases h1 : i + 2 < m
      · have g1 : (i : Int) + 2 < (m : Int) := by omega
        by_cases h2 : i < 24
        · have g2 : (i : Int) < 24 := by omega
          have g3 : ¬ (0 : Int) < (N : Int) := by omega
          clear hgo
          go_wp2_with fail
          go_ret
          exact ⟨A1, n1, c1, ls, rfl, HNC.out, HR1.out, by have := H3.out; omega, HOK.out, HX.out.trans HXR.out⟩
        · have g2 : ¬ (i : Int) < 24 := by omega
          clear hgo
          go_wp2_with fail
          go_ret
          exact ⟨A1, n1, c1, ls, rfl, HNC.out, HR1.out, by have := H3.out; omega, HOK.out, HX.out.trans HXR.out⟩
      · have g1 : ¬ (i : Int) + 2 < (m : Int) := by omega
        clear hgo
        go_wp2_with fail
        go_ret
        exact ⟨A1, n1, c1, ls, rfl, HNC.out, HR1.out, by have := H3.out; omega, HOK.out, HX.out.trans HXR.out⟩
    obtain ⟨⟨g1', g2'⟩, g3'⟩ := hgo
    have g1 : (i : Int) + 2 < (m : Int) := by omega
    have g2 : (i : Int) < 24 := by omega
    have g3 : (0 : Int) < (N : Int) := by omega
    obtain ⟨k, hk, hkN⟩ := pk_nat l i N (by omega)
    have HPN := Lib.hid (fun X (hX : Ext w1 X) => (show Calls Tryz.prog 65 #[.slice A m c, .int .i64 (i : Int), .int .i64 (N : Int)] X (fun e w' => e = .returned (.int .i64 (k : Int)) ∧ X = w') from by rw [← hk]; exact HPK.out X (HX.out.trans hX) i N (by omega) (by omega)))
    clear hk
    have hI : (k : Int) < (N : Int) := by omega
    obtain ⟨x, hxi⟩ : ∃ x, b.secs[k]? = some x := ⟨_, List.getElem?_eq_getElem (by have := HL.out; omega)⟩
    obtain ⟨bs, os, cs, rfl, hbs, _, hrep, hcs⟩ := Lay.row_at (HR.out _ HXR.out) hxi
    obtain ⟨A1, n1, c1, A2, n2, c2, rfl, hn1, hn2, hr1, hr2⟩ := kSe_rep.1 hrep
    have e0 := hcs 0 _ rfl
    have e1 := hcs 1 _ rfl
    have e2 := hcs 2 _ rfl
    have e3 := hcs 3 _ rfl
    rw [kSe_sz] at e0 e1 e2 e3
    rw [Nat.add_zero] at e0
    have HXI := Lib.hid (List.mem_of_getElem? hxi)
    have HR1 := Lib.hid hr1
    have HR2 := Lib.hid hr2
    clear hrep hcs hr1 hr2 hxi
    go_upto_region 5 with (fail)
    go_cut [7] (fun s7 wx => SbC wr wr.heap.size #[.int .i64 x.ent, .bool x.fz, .slice A1 n1 c1, .slice A2 n2 c2] 46 s7 wx)
    case first =>
      have hbl2 : w.heap.size < wr.heap.size := Nat.lt_of_lt_of_le HBL.out HXR.out.lt
      have HZ1 := Lib.hid (heap_alloc_new wr (.cells #[.int .i64 x.ent, .bool x.fz, .slice A1 n1 c1, .slice A2 n2 c2] 46))
      have HXD := Lib.hid (show Ext wr (wr.alloc (.cells #[.int .i64 x.ent, .bool x.fz, .slice A1 n1 c1, .slice A2 n2 c2] 46)).drew from ((Ext.refl wr).alloc _).drew)
      have HPN2 := Lib.hid (fun X (hX : Ext wr X) => HPN.out X (HXR.out.trans hX))
      go_region_law (first
        | (go_simp; go_at_call 65; refine (HPN2.out _ (by first | exact Ext.refl _ | exact (Ext.refl wr).drew | exact (Ext.refl wr).alloc _ | exact ((Ext.refl wr).alloc _).drew | exact (Ext.refl wr).drew.alloc _)).mono ?_; rintro e w2 ⟨rfl, rfl⟩; simp only []))
      all_goals
        go_wp2
        go_meet
        case rel => exact ⟨wr.heap.size, Nat.le_refl _, rfl, HZ1.out, HXD.out⟩
    case rest =>
      obtain ⟨z, hzl, rfl, hz, hxz⟩ := hcut
      have hl := HB.out.vs x HXI.out
      have e9 := Lay.row_len HR1.out
      have e8 := Lay.row_len HR2.out
      obtain rfl : n1 = n2 := by omega
      have hn11 : 1 ≤ n1 := by
        have h9 := hl.2.1
        have : x.vers.length ≠ 0 := fun e => h9 (List.eq_nil_of_length_eq_zero e)
        omega
      have hn10 : n1 ≤ 3 := by omega
      have HXC := Lib.hid (HXR.out.trans hxz)
      have hxz' := Lib.hid hxz
      have hzl2 := lt_of_block hz
      have y0 := cell_of hz (i := 0) (u := .int .i64 x.ent) rfl
      have y2 := cell_of hz (i := 2) (u := .slice A1 n1 c1) rfl
      have y3 := cell_of hz (i := 3) (u := .slice A2 n1 c2) rfl
      obtain ⟨v, hv, hvb⟩ := pk_nat l (i + 1) n1 hn11
      obtain ⟨gr, hgr, hgrb⟩ := pk_nat l (i + 1) 16 (by omega)
      obtain ⟨p7, hp7, hp7b⟩ := pk_nat l (i + 2) 7 (by omega)
      have en1 : ((i + 1 : Nat) : Int) = (i : Int) + 1 := by omega
      have en2 : ((i + 2 : Nat) : Int) = (i : Int) + 2 := by omega
      have HAV := Lib.hid (fun X (hX : Ext w1 X) => (show Calls Tryz.prog 65 #[.slice A m c, .int .i64 ((i : Int) + 1), .int .i64 (n1 : Int)] X (fun e w' => e = .returned (.int .i64 (v : Int)) ∧ X = w') from by rw [← hv, ← en1]; exact HPK.out X (HX.out.trans hX) (i + 1) n1 (by omega) (by omega)))
      have HAG := Lib.hid (fun X (hX : Ext w1 X) => (show Calls Tryz.prog 65 #[.slice A m c, .int .i64 ((i : Int) + 1), .int .i64 16] X (fun e w' => e = .returned (.int .i64 (gr : Int)) ∧ X = w') from by rw [← hgr, ← en1]; exact HPK.out X (HX.out.trans hX) (i + 1) 16 (by omega) (by omega)))
      have HA7 := Lib.hid (fun X (hX : Ext w1 X) => (show Calls Tryz.prog 65 #[.slice A m c, .int .i64 ((i : Int) + 2), .int .i64 7] X (fun e w' => e = .returned (.int .i64 (p7 : Int)) ∧ X = w') from by rw [← hp7, ← en2]; exact HPK.out X (HX.out.trans hX) (i + 2) 7 (by omega) (by omega)))
      clear hv hgr hp7
      have hV : (v : Int) < (n1 : Int) := by omega
      have gn1 : ((n1 : Int) == 0) = false := by simp; omega
      have hwi1 : IntKind.i64.wrap ((i : Int) + 1) = (i : Int) + 1 := IntWalk.i64_in _ (by omega)
      obtain ⟨vk, hvk⟩ : ∃ vk, x.vers[v]? = some vk := ⟨_, List.getElem?_eq_getElem (by omega)⟩
      obtain ⟨tk, htk⟩ : ∃ tk, x.texts[v]? = some tk := ⟨_, List.getElem?_eq_getElem (by omega)⟩
      obtain ⟨bv, ov, cv, rfl, hbv, _, hrv, hcv⟩ := Lay.row_at (Lay.row_ext HR1.out hxz) hvk
      obtain ⟨bt, ot, ct, rfl, hbt, _, hrt, hct⟩ := Lay.row_at (Lay.row_ext HR2.out hxz) htk
      obtain rfl : cv = [.int .i64 vk] := hrv
      obtain ⟨A3, n3, c3, A4, n4, c4, rfl, _, _, hr3, hr4⟩ := kTx_rep.1 hrt
      have v0 := hcv 0 _ rfl
      rw [show kInt.sz = 1 from rfl, Nat.mul_one, Nat.add_zero] at v0
      have t0 := hct 0 _ rfl
      have t1 := hct 1 _ rfl
      rw [kTx_sz] at t0 t1
      rw [Nat.add_zero] at t0
      have htx := HB.out.tx x HXI.out tk (List.mem_of_getElem? htk)
      have hp0 : ∀ p ∈ tk.paras ++ tk.notes, p.length ≤ 40 := fun p hp => by
        rcases List.mem_append.1 hp with h9 | h9
        · exact (htx.par.len p h9).2
        · have := (htx.len p h9).2; omega
      have h3n := Lay.row_len hr3
      have h4n := Lay.row_len hr4
      have hnp := htx.np
      have hnn := htx.nn
      obtain ⟨nw, hnw⟩ : ∃ nw, (tk.paras ++ tk.notes).flatten.length = nw := ⟨_, rfl⟩
      have hnwb : nw ≤ 10000 := by
        have h9 := flat_lt (ps := tk.paras ++ tk.notes) fun p hp => by have := hp0 p hp; omega
        rw [List.length_append] at h9
        omega
      have HCO := Lib.hid (fun X (hX : Ext wc X) => (show Calls Tryz.prog 108 #[.agg #[.slice A3 n3 c3, .slice A4 n4 c4]] X (fun e w' => e = .returned (.int .i64 (nw : Nat)) ∧ Ext X w') from by
        rw [← hnw]
        exact count108_any _ X A3 A4 n3 n4 c3 c4 tk (Lay.row_ext hr3 hX) (Lay.row_ext hr4 hX) (by omega) (by omega) fun p hp => by have := hp0 p hp; omega))
      clear hnw h3n h4n hnp hnn htx hp0
      obtain ⟨M, hM⟩ : ∃ M : Nat, max nw 1 = M := ⟨_, rfl⟩
      have hMi : max (nw : Int) 1 = (M : Int) := by omega
      obtain ⟨fr, hfr, hfrb⟩ := pk_nat l (i + 2) M (by omega)
      have HAF := Lib.hid (fun X (hX : Ext w1 X) => (show Calls Tryz.prog 65 #[.slice A m c, .int .i64 ((i : Int) + 2), .int .i64 (M : Int)] X (fun e w' => e = .returned (.int .i64 (fr : Int)) ∧ X = w') from by rw [← hfr, ← en2]; exact HPK.out X (HX.out.trans hX) (i + 2) M (by omega) (by omega)))
      clear hfr
      have HQZ := Lib.hid (fun X (hX : Ext wc X) => (show X.cell? ⟨z, 0, none⟩ = some (.int .i64 x.ent) ∧ X.cell? ⟨z, 2, none⟩ = some (.slice (some ⟨bv, ov, none⟩) n1 c1) ∧ X.cell? ⟨z, 3, none⟩ = some (.slice (some ⟨bt, ot, none⟩) n1 c2) ∧ X.cell? ⟨bv, ov + v, none⟩ = some (.int .i64 vk) from
        ⟨(hX.cells.1 _ _ hzl2).trans y0, (hX.cells.1 _ _ hzl2).trans y2, (hX.cells.1 _ _ hzl2).trans y3, (hX.cells.1 _ _ hbv).trans v0⟩))
      clear hvk htk hcv hct hrt hr3 hr4 hz hxz HR1 HR2 hl e9 e8 q2 e0 e1 e2 e3 en1 en2
      have HAV2 := Lib.hid (fun X (hX : Ext wc X) => HAV.out X (HXC.out.trans hX))
      go_upto_region 9 with (first
        | (go_at_call 65; refine (HAV.out _ HXC.out).mono ?_; rintro e w2 ⟨rfl, rfl⟩)
        | (go_at_call 108; refine (HCO.out _ (Ext.refl _)).mono ?_; rintro e w2 ⟨rfl, hx2⟩; have HX2 := Lib.hid hx2; clear hx2))
      have hw21 : IntKind.i64.wrap ((i : Int) + 2) = (i : Int) + 2 := IntWalk.i64_in _ (by omega)
      have HXC2 := Lib.hid (HXC.out.trans HX2.out)
      have HQ9 := Lib.hid (fun X (hX : Ext w2 X) => HQZ.out X (HX2.out.trans hX))
      have HAF9 := Lib.hid (fun X (hX : Ext w2 X) => HAF.out X (HXC2.out.trans hX))
      have HAG9 := Lib.hid (fun X (hX : Ext w2 X) => HAG.out X (HXC2.out.trans hX))
      have hcur : Ext w2 w2.drew := (Ext.refl _).drew
      clear y0 y2 y3 v0 t0 t1
      go_cut [10] (fun s10 wx => SbC w2 w2.heap.size #[.int .i64 x.ent, .int .i64 vk, .int .i64 (fr : Int), .int .i64 0, .int .i64 (gr : Int)] 48 s10 wx)
      case first =>
        have HZ2 := Lib.hid (show SbC w2 w2.heap.size #[.int .i64 x.ent, .int .i64 vk, .int .i64 (fr : Int), .int .i64 0, .int .i64 (gr : Int)] 48 (.pointer (some ⟨w2.heap.size, 0, none⟩)) (w2.drew.alloc (.cells #[.int .i64 x.ent, .int .i64 vk, .int .i64 (fr : Int), .int .i64 0, .int .i64 (gr : Int)] 48)) from ⟨_, Nat.le_refl _, rfl, heap_alloc_new w2.drew _, (Ext.refl w2).drew.alloc _⟩)
        have hS0 : (fun X : World => X.cell? ⟨z, 0, none⟩ = some (.int .i64 x.ent) ∧ X.cell? ⟨z, 2, none⟩ = some (.slice (some ⟨bv, ov, none⟩) n1 c1) ∧ X.cell? ⟨z, 3, none⟩ = some (.slice (some ⟨bt, ot, none⟩) n1 c2) ∧ X.cell? ⟨bv, ov + v, none⟩ = some (.int .i64 vk)) w2.drew := HQ9.out _ hcur
        refine wp_region_E (fun X : World => X.cell? ⟨z, 0, none⟩ = some (.int .i64 x.ent) ∧ X.cell? ⟨z, 2, none⟩ = some (.slice (some ⟨bv, ov, none⟩) n1 c1) ∧ X.cell? ⟨z, 3, none⟩ = some (.slice (some ⟨bt, ot, none⟩) n1 c2) ∧ X.cell? ⟨bv, ov + v, none⟩ = some (.int .i64 vk)) (fun _ => True) (fun i => i == 19) (by kernel_rfl) ?_
        refine wpE_takeS (i := 0) (d := some 57) (v := .pointer (some ⟨z, 0, none⟩)) rfl rfl (by kernel_rfl) (by kernel_rfl) (by kernel_rfl) (by kernel_rfl) (fun _ _ _ h => h) (by rfl) ?hya1 hS0 trivial ?goa1
        case hya1 =>
          intro w9 hT9
          clear hT9; go_simp
        (try simp only [Act.put, List.setIfInBounds_toArray, List.set_cons_zero, List.set_cons_succ])
        refine wpE_takeS (i := 1) (d := some 58) (v := .int .i64 x.ent) rfl rfl (by kernel_rfl) (by kernel_rfl) (by kernel_rfl) (by kernel_rfl) (fun _ _ _ h => h) (by rfl) ?hya2 hS0 trivial ?goa2
        case hya2 =>
          intro w9 hT9
          obtain ⟨y0, y1, y2, y3⟩ := hT9; go_simp
        (try simp only [Act.put, List.setIfInBounds_toArray, List.set_cons_zero, List.set_cons_succ])
        refine wpE_takeS (i := 2) (d := some 59) (v := .pointer (some ⟨z, 2, none⟩)) rfl rfl (by kernel_rfl) (by kernel_rfl) (by kernel_rfl) (by kernel_rfl) (fun _ _ _ h => h) (by rfl) ?hya3 hS0 trivial ?goa3
        case hya3 =>
          intro w9 hT9
          clear hT9; go_simp
        (try simp only [Act.put, List.setIfInBounds_toArray, List.set_cons_zero, List.set_cons_succ])
        refine wpE_takeS (i := 3) (d := some 60) (v := .slice (some ⟨bv, ov, none⟩) n1 c1) rfl rfl (by kernel_rfl) (by kernel_rfl) (by kernel_rfl) (by kernel_rfl) (fun _ _ _ h => h) (by rfl) ?hya4 hS0 trivial ?goa4
        case hya4 =>
          intro w9 hT9
          obtain ⟨y0, y1, y2, y3⟩ := hT9; go_simp
        (try simp only [Act.put, List.setIfInBounds_toArray, List.set_cons_zero, List.set_cons_succ])
        refine wpE_takeS (i := 4) (d := some 61) (v := .int .i64 (v : Int)) rfl rfl (by kernel_rfl) (by kernel_rfl) (by kernel_rfl) (by kernel_rfl) (fun _ _ _ h => h) (by rfl) ?hya5 hS0 trivial ?goa5
        case hya5 =>
          intro w9 hT9
          clear hT9; go_simp
        (try simp only [Act.put, List.setIfInBounds_toArray, List.set_cons_zero, List.set_cons_succ])
        refine wpE_takeS (i := 5) (d := some 62) (v := .pointer (some ⟨bv, ov + v, none⟩)) rfl rfl (by kernel_rfl) (by kernel_rfl) (by kernel_rfl) (by kernel_rfl) (fun _ _ _ h => h) (by rfl) ?hya6 hS0 trivial ?goa6
        case hya6 =>
          intro w9 hT9
          clear hT9; go_simp
        (try simp only [Act.put, List.setIfInBounds_toArray, List.set_cons_zero, List.set_cons_succ])
        refine wpE_takeS (i := 6) (d := some 63) (v := .int .i64 vk) rfl rfl (by kernel_rfl) (by kernel_rfl) (by kernel_rfl) (by kernel_rfl) (fun _ _ _ h => h) (by rfl) ?hya7 hS0 trivial ?goa7
        case hya7 =>
          intro w9 hT9
          obtain ⟨y0, y1, y2, y3⟩ := hT9; go_simp
        (try simp only [Act.put, List.setIfInBounds_toArray, List.set_cons_zero, List.set_cons_succ])
        refine wpE_takeS (i := 7) (d := some 64) (v := .slice A m c) rfl rfl (by kernel_rfl) (by kernel_rfl) (by kernel_rfl) (by kernel_rfl) (fun _ _ _ h => h) (by rfl) ?hya8 hS0 trivial ?goa8
        case hya8 =>
          intro w9 hT9
          clear hT9; go_simp
        (try simp only [Act.put, List.setIfInBounds_toArray, List.set_cons_zero, List.set_cons_succ])
        refine wpE_takeS (i := 8) (d := some 65) (v := .int .i64 (i : Int)) rfl rfl (by kernel_rfl) (by kernel_rfl) (by kernel_rfl) (by kernel_rfl) (fun _ _ _ h => h) (by rfl) ?hya9 hS0 trivial ?goa9
        case hya9 =>
          intro w9 hT9
          clear hT9; go_simp
        (try simp only [Act.put, List.setIfInBounds_toArray, List.set_cons_zero, List.set_cons_succ])
        refine wpE_takeS (i := 9) (d := some 66) (v := .int .i64 ((i : Int) + 2)) rfl rfl (by kernel_rfl) (by kernel_rfl) (by kernel_rfl) (by kernel_rfl) (fun _ _ _ h => h) (by rfl) ?hya10 hS0 trivial ?goa10
        case hya10 =>
          intro w9 hT9
          clear hT9; go_simp
        (try simp only [Act.put, List.setIfInBounds_toArray, List.set_cons_zero, List.set_cons_succ])
        refine wpE_takeS (i := 10) (d := some 67) (v := .int .i64 (nw : Int)) rfl rfl (by kernel_rfl) (by kernel_rfl) (by kernel_rfl) (by kernel_rfl) (fun _ _ _ h => h) (by rfl) ?hya11 hS0 trivial ?goa11
        case hya11 =>
          intro w9 hT9
          clear hT9; go_simp
        (try simp only [Act.put, List.setIfInBounds_toArray, List.set_cons_zero, List.set_cons_succ])
        refine wpE_takeS (i := 13) (d := some 70) (v := .slice A m c) rfl rfl (by kernel_rfl) (by kernel_rfl) (by kernel_rfl) (by kernel_rfl) (fun _ _ _ h => h) (by rfl) ?hya12 hS0 trivial ?goa12
        case hya12 =>
          intro w9 hT9
          clear hT9; go_simp
        (try simp only [Act.put, List.setIfInBounds_toArray, List.set_cons_zero, List.set_cons_succ])
        refine wpE_takeS (i := 14) (d := some 71) (v := .int .i64 (i : Int)) rfl rfl (by kernel_rfl) (by kernel_rfl) (by kernel_rfl) (by kernel_rfl) (fun _ _ _ h => h) (by rfl) ?hya13 hS0 trivial ?goa13
        case hya13 =>
          intro w9 hT9
          clear hT9; go_simp
        (try simp only [Act.put, List.setIfInBounds_toArray, List.set_cons_zero, List.set_cons_succ])
        refine wpE_takeS (i := 15) (d := some 72) (v := .int .i64 ((i : Int) + 1)) rfl rfl (by kernel_rfl) (by kernel_rfl) (by kernel_rfl) (by kernel_rfl) (fun _ _ _ h => h) (by rfl) ?hya14 hS0 trivial ?goa14
        case hya14 =>
          intro w9 hT9
          clear hT9; go_simp
        (try simp only [Act.put, List.setIfInBounds_toArray, List.set_cons_zero, List.set_cons_succ])
        refine wpE_all (rs := [11, 18]) (by kernel_rfl) (by simp) ?_
        refine AllE.cons rfl (fun K hK => ?_) (AllE.cons rfl (fun K hK => ?_) AllE.nil)
        · skip
          simp only [List.getElem_toArray, List.getElem_cons_succ, List.getElem_cons_zero]
          go_simp
          refine hK.out _ _ ⟨fun _ => (HQ9.out _ hcur), trivial⟩ (fun _ => ?_)
          clear hK K
          have hS0 := (HQ9.out _ hcur)
          (try simp only [Act.put, List.setIfInBounds_toArray, List.set_cons_zero, List.set_cons_succ])
          refine wpE_all (rs := [12, 18]) (by kernel_rfl) (by simp) ?_
          refine AllE.cons rfl (fun K hK => ?_) (AllE.cons rfl (fun K hK => ?_) AllE.nil)
          · skip
            simp only [List.getElem_toArray, List.getElem_cons_succ, List.getElem_cons_zero]
            go_simp
            go_at_call 65
            refine (HAF9.out _ hcur).mono ?_
            rintro z9 w9 ⟨rfl, rfl⟩
            simp only []
            refine hK.out _ _ ⟨fun _ => (HQ9.out _ hcur), trivial⟩ (fun _ => ?_)
            clear hK K
            have hS0 := (HQ9.out _ hcur)
            (try simp only [Act.put, List.setIfInBounds_toArray, List.set_cons_zero, List.set_cons_succ])
            refine wpE_all (rs := [16, 18]) (by kernel_rfl) (by simp) ?_
            refine AllE.cons rfl (fun K hK => ?_) (AllE.cons rfl (fun K hK => ?_) AllE.nil)
            · skip
              simp only [List.getElem_toArray, List.getElem_cons_succ, List.getElem_cons_zero]
              go_simp
              go_at_call 65
              refine (HAG9.out _ hcur).mono ?_
              rintro z9 w9 ⟨rfl, rfl⟩
              simp only []
              refine hK.out _ _ ⟨fun _ => (HQ9.out _ hcur), trivial⟩ (fun _ => ?_)
              clear hK K
              have hS0 := (HQ9.out _ hcur)
              (try simp only [Act.put, List.setIfInBounds_toArray, List.set_cons_zero, List.set_cons_succ])
              refine wpE_takeS (i := 17) (d := some 74) (v := .agg #[.int .i64 x.ent, .int .i64 vk, .int .i64 (fr : Int), .int .i64 0, .int .i64 (gr : Int)]) rfl rfl (by kernel_rfl) (by kernel_rfl) (by kernel_rfl) (by kernel_rfl) (fun _ _ _ h => h) (by rfl) ?hya15 hS0 trivial ?goa15
              case hya15 =>
                intro w9 hT9
                clear hT9; go_simp
              (try simp only [Act.put, List.setIfInBounds_toArray, List.set_cons_zero, List.set_cons_succ])
              refine wpE_all (rs := [18]) (by kernel_rfl) (by simp) ?_
              refine AllE.cons rfl (fun K hK => ?_) AllE.nil
              simp only [List.getElem_toArray, List.getElem_cons_succ, List.getElem_cons_zero]
              go_simp
              refine hK.out _ _ ⟨fun _ => (HQ9.out _ (hcur.alloc (.cells #[.int .i64 0, .int .i64 0, .int .i64 0, .int .i64 0, .int .i64 0] 48))), trivial⟩ (fun _ => ?_)
              clear hK K
              have hS0 := (HQ9.out _ (hcur.alloc (.cells #[.int .i64 0, .int .i64 0, .int .i64 0, .int .i64 0, .int .i64 0] 48)))
              (try simp only [Act.put, List.setIfInBounds_toArray, List.set_cons_zero, List.set_cons_succ])
              refine wpE_all (rs := [19]) (by kernel_rfl) (by simp) ?_
              refine AllE.cons rfl (fun K hK => ?_) AllE.nil
              simp only [List.getElem_toArray, List.getElem_cons_succ, List.getElem_cons_zero]
              go_simp
              refine hK.out _ _ ⟨fun h => absurd h (by simp), trivial⟩ (fun _ => ?_)
              clear hK K
              (try simp only [Act.put, List.setIfInBounds_toArray, List.set_cons_zero, List.set_cons_succ])
              refine wpE_done (by kernel_rfl) ?_ _
              go_wp2_with fail
              go_meet
              case rel => exact HZ2.out
            · skip
              simp only [List.getElem_toArray, List.getElem_cons_succ, List.getElem_cons_zero]
              go_simp
              refine hK.out _ _ ⟨fun _ => (HQ9.out _ (hcur.alloc (.cells #[.int .i64 0, .int .i64 0, .int .i64 0, .int .i64 0, .int .i64 0] 48))), trivial⟩ (fun _ => ?_)
              clear hK K
              have hS0 := (HQ9.out _ (hcur.alloc (.cells #[.int .i64 0, .int .i64 0, .int .i64 0, .int .i64 0, .int .i64 0] 48)))
              (try simp only [Act.put, List.setIfInBounds_toArray, List.set_cons_zero, List.set_cons_succ])
              refine wpE_all (rs := [16]) (by kernel_rfl) (by simp) ?_
              refine AllE.cons rfl (fun K hK => ?_) AllE.nil
              simp only [List.getElem_toArray, List.getElem_cons_succ, List.getElem_cons_zero]
              go_simp
              go_at_call 65
              refine (HAG9.out _ (hcur.alloc (.cells #[.int .i64 0, .int .i64 0, .int .i64 0, .int .i64 0, .int .i64 0] 48))).mono ?_
              rintro z9 w9 ⟨rfl, rfl⟩
              simp only []
              refine hK.out _ _ ⟨fun _ => (HQ9.out _ (hcur.alloc (.cells #[.int .i64 0, .int .i64 0, .int .i64 0, .int .i64 0, .int .i64 0] 48))), trivial⟩ (fun _ => ?_)
              clear hK K
              have hS0 := (HQ9.out _ (hcur.alloc (.cells #[.int .i64 0, .int .i64 0, .int .i64 0, .int .i64 0, .int .i64 0] 48)))
              (try simp only [Act.put, List.setIfInBounds_toArray, List.set_cons_zero, List.set_cons_succ])
              refine wpE_takeS (i := 17) (d := some 74) (v := .agg #[.int .i64 x.ent, .int .i64 vk, .int .i64 (fr : Int), .int .i64 0, .int .i64 (gr : Int)]) rfl rfl (by kernel_rfl) (by kernel_rfl) (by kernel_rfl) (by kernel_rfl) (fun _ _ _ h => h) (by rfl) ?hya16 hS0 trivial ?goa16
              case hya16 =>
                intro w9 hT9
                clear hT9; go_simp
              (try simp only [Act.put, List.setIfInBounds_toArray, List.set_cons_zero, List.set_cons_succ])
              refine wpE_all (rs := [19]) (by kernel_rfl) (by simp) ?_
              refine AllE.cons rfl (fun K hK => ?_) AllE.nil
              simp only [List.getElem_toArray, List.getElem_cons_succ, List.getElem_cons_zero]
              go_simp
              refine hK.out _ _ ⟨fun h => absurd h (by simp), trivial⟩ (fun _ => ?_)
              clear hK K
              (try simp only [Act.put, List.setIfInBounds_toArray, List.set_cons_zero, List.set_cons_succ])
              refine wpE_done (by kernel_rfl) ?_ _
              go_wp2_with fail
              go_meet
              case rel => exact HZ2.out
          · skip
            simp only [List.getElem_toArray, List.getElem_cons_succ, List.getElem_cons_zero]
            go_simp
            refine hK.out _ _ ⟨fun _ => (HQ9.out _ (hcur.alloc (.cells #[.int .i64 0, .int .i64 0, .int .i64 0, .int .i64 0, .int .i64 0] 48))), trivial⟩ (fun _ => ?_)
            clear hK K
            have hS0 := (HQ9.out _ (hcur.alloc (.cells #[.int .i64 0, .int .i64 0, .int .i64 0, .int .i64 0, .int .i64 0] 48)))
            (try simp only [Act.put, List.setIfInBounds_toArray, List.set_cons_zero, List.set_cons_succ])
            refine wpE_all (rs := [12]) (by kernel_rfl) (by simp) ?_
            refine AllE.cons rfl (fun K hK => ?_) AllE.nil
            simp only [List.getElem_toArray, List.getElem_cons_succ, List.getElem_cons_zero]
            go_simp
            go_at_call 65
            refine (HAF9.out _ (hcur.alloc (.cells #[.int .i64 0, .int .i64 0, .int .i64 0, .int .i64 0, .int .i64 0] 48))).mono ?_
            rintro z9 w9 ⟨rfl, rfl⟩
            simp only []
            refine hK.out _ _ ⟨fun _ => (HQ9.out _ (hcur.alloc (.cells #[.int .i64 0, .int .i64 0, .int .i64 0, .int .i64 0, .int .i64 0] 48))), trivial⟩ (fun _ => ?_)
            clear hK K
            have hS0 := (HQ9.out _ (hcur.alloc (.cells #[.int .i64 0, .int .i64 0, .int .i64 0, .int .i64 0, .int .i64 0] 48)))
            (try simp only [Act.put, List.setIfInBounds_toArray, List.set_cons_zero, List.set_cons_succ])
            refine wpE_all (rs := [16]) (by kernel_rfl) (by simp) ?_
            refine AllE.cons rfl (fun K hK => ?_) AllE.nil
            simp only [List.getElem_toArray, List.getElem_cons_succ, List.getElem_cons_zero]
            go_simp
            go_at_call 65
            refine (HAG9.out _ (hcur.alloc (.cells #[.int .i64 0, .int .i64 0, .int .i64 0, .int .i64 0, .int .i64 0] 48))).mono ?_
            rintro z9 w9 ⟨rfl, rfl⟩
            simp only []
            refine hK.out _ _ ⟨fun _ => (HQ9.out _ (hcur.alloc (.cells #[.int .i64 0, .int .i64 0, .int .i64 0, .int .i64 0, .int .i64 0] 48))), trivial⟩ (fun _ => ?_)
            clear hK K
            have hS0 := (HQ9.out _ (hcur.alloc (.cells #[.int .i64 0, .int .i64 0, .int .i64 0, .int .i64 0, .int .i64 0] 48)))
            (try simp only [Act.put, List.setIfInBounds_toArray, List.set_cons_zero, List.set_cons_succ])
            refine wpE_takeS (i := 17) (d := some 74) (v := .agg #[.int .i64 x.ent, .int .i64 vk, .int .i64 (fr : Int), .int .i64 0, .int .i64 (gr : Int)]) rfl rfl (by kernel_rfl) (by kernel_rfl) (by kernel_rfl) (by kernel_rfl) (fun _ _ _ h => h) (by rfl) ?hya17 hS0 trivial ?goa17
            case hya17 =>
              intro w9 hT9
              clear hT9; go_simp
            (try simp only [Act.put, List.setIfInBounds_toArray, List.set_cons_zero, List.set_cons_succ])
            refine wpE_all (rs := [19]) (by kernel_rfl) (by simp) ?_
            refine AllE.cons rfl (fun K hK => ?_) AllE.nil
            simp only [List.getElem_toArray, List.getElem_cons_succ, List.getElem_cons_zero]
            go_simp
            refine hK.out _ _ ⟨fun h => absurd h (by simp), trivial⟩ (fun _ => ?_)
            clear hK K
            (try simp only [Act.put, List.setIfInBounds_toArray, List.set_cons_zero, List.set_cons_succ])
            refine wpE_done (by kernel_rfl) ?_ _
            go_wp2_with fail
            go_meet
            case rel => exact HZ2.out
        · skip
          simp only [List.getElem_toArray, List.getElem_cons_succ, List.getElem_cons_zero]
          go_simp
          refine hK.out _ _ ⟨fun _ => (HQ9.out _ (hcur.alloc (.cells #[.int .i64 0, .int .i64 0, .int .i64 0, .int .i64 0, .int .i64 0] 48))), trivial⟩ (fun _ => ?_)
          clear hK K
          have hS0 := (HQ9.out _ (hcur.alloc (.cells #[.int .i64 0, .int .i64 0, .int .i64 0, .int .i64 0, .int .i64 0] 48)))
          (try simp only [Act.put, List.setIfInBounds_toArray, List.set_cons_zero, List.set_cons_succ])
          refine wpE_all (rs := [11]) (by kernel_rfl) (by simp) ?_
          refine AllE.cons rfl (fun K hK => ?_) AllE.nil
          simp only [List.getElem_toArray, List.getElem_cons_succ, List.getElem_cons_zero]
          go_simp
          refine hK.out _ _ ⟨fun _ => (HQ9.out _ (hcur.alloc (.cells #[.int .i64 0, .int .i64 0, .int .i64 0, .int .i64 0, .int .i64 0] 48))), trivial⟩ (fun _ => ?_)
          clear hK K
          have hS0 := (HQ9.out _ (hcur.alloc (.cells #[.int .i64 0, .int .i64 0, .int .i64 0, .int .i64 0, .int .i64 0] 48)))
          (try simp only [Act.put, List.setIfInBounds_toArray, List.set_cons_zero, List.set_cons_succ])
          refine wpE_all (rs := [12]) (by kernel_rfl) (by simp) ?_
          refine AllE.cons rfl (fun K hK => ?_) AllE.nil
          simp only [List.getElem_toArray, List.getElem_cons_succ, List.getElem_cons_zero]
          go_simp
          go_at_call 65
          refine (HAF9.out _ (hcur.alloc (.cells #[.int .i64 0, .int .i64 0, .int .i64 0, .int .i64 0, .int .i64 0] 48))).mono ?_
          rintro z9 w9 ⟨rfl, rfl⟩
          simp only []
          refine hK.out _ _ ⟨fun _ => (HQ9.out _ (hcur.alloc (.cells #[.int .i64 0, .int .i64 0, .int .i64 0, .int .i64 0, .int .i64 0] 48))), trivial⟩ (fun _ => ?_)
          clear hK K
          have hS0 := (HQ9.out _ (hcur.alloc (.cells #[.int .i64 0, .int .i64 0, .int .i64 0, .int .i64 0, .int .i64 0] 48)))
          (try simp only [Act.put, List.setIfInBounds_toArray, List.set_cons_zero, List.set_cons_succ])
          refine wpE_all (rs := [16]) (by kernel_rfl) (by simp) ?_
          refine AllE.cons rfl (fun K hK => ?_) AllE.nil
          simp only [List.getElem_toArray, List.getElem_cons_succ, List.getElem_cons_zero]
          go_simp
          go_at_call 65
          refine (HAG9.out _ (hcur.alloc (.cells #[.int .i64 0, .int .i64 0, .int .i64 0, .int .i64 0, .int .i64 0] 48))).mono ?_
          rintro z9 w9 ⟨rfl, rfl⟩
          simp only []
          refine hK.out _ _ ⟨fun _ => (HQ9.out _ (hcur.alloc (.cells #[.int .i64 0, .int .i64 0, .int .i64 0, .int .i64 0, .int .i64 0] 48))), trivial⟩ (fun _ => ?_)
          clear hK K
          have hS0 := (HQ9.out _ (hcur.alloc (.cells #[.int .i64 0, .int .i64 0, .int .i64 0, .int .i64 0, .int .i64 0] 48)))
          (try simp only [Act.put, List.setIfInBounds_toArray, List.set_cons_zero, List.set_cons_succ])
          refine wpE_takeS (i := 17) (d := some 74) (v := .agg #[.int .i64 x.ent, .int .i64 vk, .int .i64 (fr : Int), .int .i64 0, .int .i64 (gr : Int)]) rfl rfl (by kernel_rfl) (by kernel_rfl) (by kernel_rfl) (by kernel_rfl) (fun _ _ _ h => h) (by rfl) ?hya18 hS0 trivial ?goa18
          case hya18 =>
            intro w9 hT9
            clear hT9; go_simp
          (try simp only [Act.put, List.setIfInBounds_toArray, List.set_cons_zero, List.set_cons_succ])
          refine wpE_all (rs := [19]) (by kernel_rfl) (by simp) ?_
          refine AllE.cons rfl (fun K hK => ?_) AllE.nil
          simp only [List.getElem_toArray, List.getElem_cons_succ, List.getElem_cons_zero]
          go_simp
          refine hK.out _ _ ⟨fun h => absurd h (by simp), trivial⟩ (fun _ => ?_)
          clear hK K
          (try simp only [Act.put, List.setIfInBounds_toArray, List.set_cons_zero, List.set_cons_succ])
          refine wpE_done (by kernel_rfl) ?_ _
          go_wp2_with fail
          go_meet
          case rel => exact HZ2.out
      case rest =>
        obtain ⟨zx, hzx, rfl, hzb, hxx⟩ := hcut
        have HW2 := Lib.hid (hxx)
        have hw2l : w2.heap.size < wc.heap.size := Nat.lt_of_le_of_lt hzx (lt_of_block hzb)
        have HXE := Lib.hid (HXC2.out.trans hxx)
        have c2 := cell_of hzb (i := 2) (u := .int .i64 (fr : Int)) rfl
        have hfz := frozen_of hzb 3
        have hc3 := cell_of hzb (i := 3) (u := .int .i64 0) rfl
        have HZB := Lib.hid hzb
        have HZX := Lib.hid hzx
        obtain ⟨q7, hq7⟩ : ∃ q7 : Nat, p7 % 4 = q7 := ⟨_, rfl⟩
        have hq7b : q7 < 4 := by omega
        have hrem : Int.tmod (p7 : Int) 4 = (q7 : Int) := by rw [Int.tmod_eq_emod_of_nonneg (by omega)]; omega
        have hremw : IntKind.i64.wrap (q7 : Int) = (q7 : Int) := IntWalk.i64_in _ (by omega)
        have hwf1 : IntKind.i64.wrap ((fr : Int) + 1) = (fr : Int) + 1 := IntWalk.i64_in _ (by omega)
        have hwf2 : IntKind.i64.wrap ((fr : Int) + 1 + (q7 : Int)) = (fr : Int) + 1 + (q7 : Int) := IntWalk.i64_in _ (by omega)
        have HC2 := Lib.hid (fun X (hX : Ext wc X) => (show X.cell? ⟨zx, 2, none⟩ = some (.int .i64 (fr : Int)) from (hX.cells.1 _ _ (lt_of_block HZB.out)).trans c2))
        have HA79 := Lib.hid (fun X (hX : Ext wc X) => HA7.out X (HXE.out.trans hX))
        have HGB := Lib.hid hgrb
        clear hxx hzb hzx c2 hcur hq7 hMi hM hp7b hgrb
        go_upto_region 10 with (fail)
        obtain ⟨wd, hwd⟩ : ∃ wd, (wc.setCell ⟨zx, 3, none⟩ (.int .i64 ((fr : Int) + 1 + (q7 : Int)))).drew = wd := ⟨_, rfl⟩
        have hzd : wd.heap[zx]? = some (.cells #[.int .i64 x.ent, .int .i64 vk, .int .i64 (fr : Int), .int .i64 ((fr : Int) + 1 + (q7 : Int)), .int .i64 (gr : Int)] 48 (0, 0)) := by
          rw [← hwd]
          exact heap_setCell_same _ zx 3 _ 48 _ HZB.out
        have hxd : Ext w2 wd := by rw [← hwd]; exact (HW2.out.setCell (p := ⟨zx, 3, none⟩) HZX.out _).drew
        have HZD := Lib.hid hzd
        have HXD := Lib.hid hxd
        have HWD := Lib.hid hwd
        clear hzd hxd hwd
        have hS0 : (fun X : World => X.cell? ⟨zx, 2, none⟩ = some (.int .i64 (fr : Int))) wc.drew := HC2.out _ (Ext.refl _).drew
        refine wp_region_E (fun X : World => X.cell? ⟨zx, 2, none⟩ = some (.int .i64 (fr : Int))) (fun _ => True) (fun i => i == 10) (by kernel_rfl) ?_
        refine wpE_takeS (i := 0) (d := some 75) (v := .pointer (some ⟨zx, 2, none⟩)) rfl rfl (by kernel_rfl) (by kernel_rfl) (by kernel_rfl) (by kernel_rfl) (fun _ _ _ h => h) (by rfl) ?hyb1 hS0 trivial ?gob1
        case hyb1 =>
          intro w9 hT9
          clear hT9; go_simp
        (try simp only [Act.put, List.setIfInBounds_toArray, List.set_cons_zero, List.set_cons_succ])
        refine wpE_takeS (i := 1) (d := some 76) (v := .int .i64 (fr : Int)) rfl rfl (by kernel_rfl) (by kernel_rfl) (by kernel_rfl) (by kernel_rfl) (fun _ _ _ h => h) (by rfl) ?hyb2 hS0 trivial ?gob2
        case hyb2 =>
          intro w9 hT9
          have y0 : w9.cell? ⟨zx, 2, none⟩ = some (.int .i64 (fr : Int)) := hT9; go_simp
        (try simp only [Act.put, List.setIfInBounds_toArray, List.set_cons_zero, List.set_cons_succ])
        refine wpE_takeS (i := 2) (d := some 77) (v := .int .i64 ((fr : Int) + 1)) rfl rfl (by kernel_rfl) (by kernel_rfl) (by kernel_rfl) (by kernel_rfl) (fun _ _ _ h => h) (by rfl) ?hyb3 hS0 trivial ?gob3
        case hyb3 =>
          intro w9 hT9
          clear hT9; go_simp
        (try simp only [Act.put, List.setIfInBounds_toArray, List.set_cons_zero, List.set_cons_succ])
        refine wpE_takeS (i := 3) (d := some 78) (v := .slice A m c) rfl rfl (by kernel_rfl) (by kernel_rfl) (by kernel_rfl) (by kernel_rfl) (fun _ _ _ h => h) (by rfl) ?hyb4 hS0 trivial ?gob4
        case hyb4 =>
          intro w9 hT9
          clear hT9; go_simp
        (try simp only [Act.put, List.setIfInBounds_toArray, List.set_cons_zero, List.set_cons_succ])
        refine wpE_takeS (i := 4) (d := some 79) (v := .int .i64 (i : Int)) rfl rfl (by kernel_rfl) (by kernel_rfl) (by kernel_rfl) (by kernel_rfl) (fun _ _ _ h => h) (by rfl) ?hyb5 hS0 trivial ?gob5
        case hyb5 =>
          intro w9 hT9
          clear hT9; go_simp
        (try simp only [Act.put, List.setIfInBounds_toArray, List.set_cons_zero, List.set_cons_succ])
        refine wpE_takeS (i := 5) (d := some 80) (v := .int .i64 ((i : Int) + 2)) rfl rfl (by kernel_rfl) (by kernel_rfl) (by kernel_rfl) (by kernel_rfl) (fun _ _ _ h => h) (by rfl) ?hyb6 hS0 trivial ?gob6
        case hyb6 =>
          intro w9 hT9
          clear hT9; go_simp
        (try simp only [Act.put, List.setIfInBounds_toArray, List.set_cons_zero, List.set_cons_succ])
        refine wpE_all (rs := [6]) (by kernel_rfl) (by simp) ?_
        refine AllE.cons rfl (fun K hK => ?_) AllE.nil
        simp only [List.getElem_toArray, List.getElem_cons_succ, List.getElem_cons_zero]
        go_simp
        go_at_call 65
        refine (HA79.out _ (Ext.refl _).drew).mono ?_
        rintro z9 w9 ⟨rfl, rfl⟩
        simp only []
        refine hK.out _ _ ⟨fun _ => (HC2.out _ (Ext.refl _).drew), trivial⟩ (fun _ => ?_)
        clear hK K
        have hS0 := (HC2.out _ (Ext.refl _).drew)
        (try simp only [Act.put, List.setIfInBounds_toArray, List.set_cons_zero, List.set_cons_succ])
        refine wpE_takeS (i := 7) (d := some 82) (v := .int .i64 (q7 : Int)) rfl rfl (by kernel_rfl) (by kernel_rfl) (by kernel_rfl) (by kernel_rfl) (fun _ _ _ h => h) (by rfl) ?hyb7 hS0 trivial ?gob7
        case hyb7 =>
          intro w9 hT9
          clear hT9; go_simp
        (try simp only [Act.put, List.setIfInBounds_toArray, List.set_cons_zero, List.set_cons_succ])
        refine wpE_takeS (i := 8) (d := some 83) (v := .int .i64 ((fr : Int) + 1 + (q7 : Int))) rfl rfl (by kernel_rfl) (by kernel_rfl) (by kernel_rfl) (by kernel_rfl) (fun _ _ _ h => h) (by rfl) ?hyb8 hS0 trivial ?gob8
        case hyb8 =>
          intro w9 hT9
          clear hT9; go_simp
        (try simp only [Act.put, List.setIfInBounds_toArray, List.set_cons_zero, List.set_cons_succ])
        refine wpE_takeS (i := 9) (d := some 84) (v := .pointer (some ⟨zx, 3, none⟩)) rfl rfl (by kernel_rfl) (by kernel_rfl) (by kernel_rfl) (by kernel_rfl) (fun _ _ _ h => h) (by rfl) ?hyb9 hS0 trivial ?gob9
        case hyb9 =>
          intro w9 hT9
          clear hT9; go_simp
        (try simp only [Act.put, List.setIfInBounds_toArray, List.set_cons_zero, List.set_cons_succ])
        refine wpE_all (rs := [10]) (by kernel_rfl) (by simp) ?_
        refine AllE.cons rfl (fun K hK => ?_) AllE.nil
        simp only [List.getElem_toArray, List.getElem_cons_succ, List.getElem_cons_zero]
        go_simp
        refine hK.out _ _ ⟨fun h => absurd h (by simp), trivial⟩ (fun _ => ?_)
        clear hK K
        (try simp only [Act.put, List.setIfInBounds_toArray, List.set_cons_zero, List.set_cons_succ])
        refine wpE_done (by kernel_rfl) ?_ _
        rw [HWD.out]
        clear hfz hc3
        have HXRD := Lib.hid (show Ext wr wd from hxz'.out.trans (HX2.out.trans HXD.out))
        have HOD := Lib.hid (Lay.own_ext HO.out HXRD.out)
        have HXWD := Lib.hid (HXC2.out.trans HXD.out)
        have hcap : ∃ A9 c9, out = .slice A9 ls.length c9 ∧ ls.length ≤ c9 ∧ kSea.row wd (fun _ => True) A9 ls.length ls := by
          obtain ⟨A9, c9, e9, h9, hr9⟩ := Lay.own_row HOD.out
          exact ⟨A9, c9, e9, h9, Lay.row_mono hr9 fun _ _ _ => trivial⟩
        obtain ⟨A9, c9, rfl, hc9, hr9⟩ := hcap
        have HR9 := Lib.hid hr9
        clear hr9
        obtain ⟨nl, hnl⟩ : ∃ nl, ls.length = nl := ⟨_, rfl⟩
        rw [hnl] at HR9 hc9
        have HNL := Lib.hid hnl
        have hnlb : nl ≤ 8 := by have := H3.out; omega
        obtain ⟨sx, hsx⟩ : ∃ sx : Sea, sx = ⟨x.ent, vk, (fr : Int), (fr : Int) + 1 + (q7 : Int), (gr : Int)⟩ := ⟨_, rfl⟩
        have HSX := Lib.hid hsx
        have HEQ := Lib.hid (fun (y : Sea) W => (show (binOp .eql 48 (.agg #[.int .i64 y.ent, .int .i64 y.ver, .int .i64 y.fr, .int .i64 y.un, .int .i64 y.gr]) (.agg #[.int .i64 x.ent, .int .i64 vk, .int .i64 (fr : Int), .int .i64 ((fr : Int) + 1 + (q7 : Int)), .int .i64 (gr : Int)])).run Tryz.prog W = .ok (.bool (decide (y = sx))) W from by rw [hsx]; exact eql_sea y ⟨x.ent, vk, (fr : Int), (fr : Int) + 1 + (q7 : Int), (gr : Int)⟩ W))
        have HQD := Lib.hid (fun X (hX : Ext wd X) => (show X.cell? ⟨zx, 0, none⟩ = some (.int .i64 x.ent) ∧ X.cell? ⟨zx, 1, none⟩ = some (.int .i64 vk) ∧ X.cell? ⟨zx, 2, none⟩ = some (.int .i64 (fr : Int)) ∧ X.cell? ⟨zx, 3, none⟩ = some (.int .i64 ((fr : Int) + 1 + (q7 : Int))) ∧ X.cell? ⟨zx, 4, none⟩ = some (.int .i64 (gr : Int)) from
          have h9 := (hX.block _ (lt_of_block HZD.out)).trans HZD.out
          ⟨cell_of h9 (i := 0) rfl, cell_of h9 (i := 1) rfl, cell_of h9 (i := 2) rfl, cell_of h9 (i := 3) rfl, cell_of h9 (i := 4) rfl⟩))
        clear hnl hsx
        rw [HNL.out]
        go_wp2_with fail
        go_loopw [11, 12] (fun s11 s12 W => FoR wd nl s11 s12 W) (fun _ s12 _ => toM nl s12)
        case atStart => exact ⟨0, false, by omega, rfl, rfl, Ext.refl _⟩
        case round =>
          obtain ⟨j, f, hj, rfl, rfl, hxj⟩ := hrel
          have HXJ := Lib.hid hxj
          clear hxj
          by_cases hjn : j < nl
          case pos =>
            have hJ : (j : Int) < (nl : Int) := by omega
            go_upto_region 15 with (fail)
            cases f with
            | true =>
              go_quiet (fail)
              go_wp2_with fail
              go_roundw
              case rel => exact ⟨j + 1, true, by omega, rfl, by go_num, HXJ.out.drewN _⟩
              case measure => simp only [toM]; omega
            | false =>
              obtain ⟨y, hy⟩ : ∃ y, ls[j]? = some y := ⟨_, List.getElem?_eq_getElem (by have := HNL.out; omega)⟩
              obtain ⟨b8, o8, rfl, hb8, d0, d1, d2, d3, d4⟩ := sea_at (Lay.row_ext HR9.out HXJ.out) hy
              obtain ⟨u0, u1, u2, u3, u4⟩ := HQD.out _ HXJ.out
              obtain ⟨r, hr⟩ : ∃ r, decide (y = sx) = r := ⟨_, rfl⟩
              have d := fun W => HEQ.out y W
              rw [hr] at d
              clear hr hy
              go_quiet (fail)
              go_wp2_with fail
              go_roundw
              case rel => exact ⟨j + 1, r, by omega, rfl, by go_num, HXJ.out.drewN _⟩
              case measure => simp only [toM]; omega
          have hjn2 : ¬ (j : Int) < (nl : Int) := by omega
          have HXWJ := Lib.hid (HXWD.out.trans HXJ.out)
          cases f with
          | true =>
            go_wp2_with fail
            go_roundw
            case rel => exact ⟨i + 3, _, ls, by omega, by go_num, rfl, by have := H3.out; omega, HOK.out, by have h9 := Lay.own_ext HOD.out HXJ.out; rw [HNL.out] at h9; exact h9, HXWJ.out⟩
            case measure => simp only [toM]; omega
          | false =>
            obtain ⟨u0, u1, u2, u3, u4⟩ := HQD.out _ HXJ.out
            obtain ⟨A10, c10, w10, hrun, ho10, hb10, _, _, _⟩ := own_app1 (k := kSea) (Pr := Tryz.prog) (t := 28) Tryz.underlying28 info48 rfl (by decide) (by omega) (Lay.own_ext HOD.out HXJ.out) HXWJ.out.lt (cs := #[.int .i64 x.ent, .int .i64 vk, .int .i64 (fr : Int), .int .i64 ((fr : Int) + 1 + (q7 : Int)), .int .i64 (gr : Int)]) (T := 48) (x := sx) (by rw [HSX.out]; rfl) 1 (by have := HNL.out; omega)
            have HRUN := Lib.hid hrun
            rw [HNL.out] at HRUN ho10
            have HO10 := Lib.hid ho10
            have HX10 := Lib.hid (show Ext w1 w10 from Below.trans HXWJ.out (hb10 _ (Nat.le_refl _)))
            clear hrun ho10 hb10
            go_wp2_with (first | (at_builtin; refine wpList_append_run HRUN.out rfl rfl rfl rfl rfl ?_))
            go_roundw
            case rel =>
              refine ⟨i + 3, _, ls ++ [sx], by omega, by go_num, rfl, by have := H3.out; rw [List.length_append]; simp only [List.length_singleton]; omega, ?_, HO10.out, HX10.out⟩
              intro s hs
              rcases List.mem_append.1 hs with h9 | h9
              · exact HOK.out s h9
              · simp only [List.mem_singleton] at h9
                rw [h9, HSX.out]
                exact ⟨by simp only []; omega, by simp only []; have := HGB.out; omega⟩
            case measure => simp only [toM]; omega
end Go.Proofs.YtdbnddmncbjobaaGreatDoor
