/- Arguments of the laws FactsChecks and FactsAppends, opened: a slice of versions, a version. -/
import Derived.Test.YthjjdeabfnlbjaaLaw
import Derived.Test.YthjjdeabfnlbjaaRCheck
import Derived.Deep.Slices
import Derived.ChangeArms
namespace Go.Proofs.Ythjjdeabfnlbjaa
open Go Go.RowKit Go.WideShapes Go.ChangeShapes Go.Deep

theorem fld {fs : Array Field} {i t o : Nat} (h : (fs[i]?).map (fun f => (f.type, f.offset)) = some (t, o)) : ∃ f, fs[i]? = some f ∧ f.type = t ∧ f.offset = o := by
  obtain ⟨f, h1, h2⟩ := Option.map_eq_some_iff.1 h
  simp only [Prod.mk.injEq] at h2
  exact ⟨f, h1, h2.1, h2.2⟩
theorem cells30 : Try.prog.cellsOf 30 = 6 := by kernel_rfl
theorem cells32 : Try.prog.cellsOf 32 = 8 := by kernel_rfl
theorem cells3 : Try.prog.cellsOf 3 = 1 := by kernel_rfl
theorem cells4 : Try.prog.cellsOf 4 = 1 := by kernel_rfl
theorem cells9 : Try.prog.cellsOf 9 = 1 := by kernel_rfl
theorem size30 : (Try.prog.fieldsOf 30).size = 6 := by kernel_rfl
theorem size32 : (Try.prog.fieldsOf 32).size = 3 := by kernel_rfl
section
variable {H : Type} {enc : TypeId × Value → H} {w : World} {base : Nat} {spare : Nat → Bool} {held : Bool}
theorem open_field {t : TypeId} {cs : List Value} {x : DataW H × List MemPlace} {fuel : Nat} {n : Nat} (hs : Try.prog.underlying t = some (.struct (Try.prog.fieldsOf t))) (hn : (Try.prog.fieldsOf t).size = n) (h : DataW.trod enc Try.prog w base spare held fuel t cs = some x) :
    cs.length = Try.prog.cellsOf t ∧ ∀ i ft o, i < n → ((Try.prog.fieldsOf t)[i]?).map (fun f => (f.type, f.offset)) = some (ft, o) → ∃ m y, DataW.trod enc Try.prog w base spare held m ft ((cs.drop o).take (Try.prog.cellsOf ft)) = some y := by
  obtain ⟨xs, m, _, _, hlen, hxl, hf⟩ := DataW.trod_struct hs h
  refine ⟨hlen, fun i ft o hi he => ?_⟩
  obtain ⟨f, h1, h2, h3⟩ := fld he
  have h4 := hf i f h1
  rw [h2, h3] at h4
  exact ⟨m, _, h4.trans (List.getElem?_eq_getElem (by rw [hxl, hn]; exact hi))⟩
set_option maxRecDepth 100000 in
theorem open_fact {cs : List Value} {x : DataW H × List MemPlace} {fuel : Nat} (h : DataW.trod enc Try.prog w base spare held fuel 30 cs = some x) : ∃ f : Fc, cs = f.cells ∧ f.kd.size ≤ maxLen := by
  obtain ⟨hl, hf⟩ := open_field str30 size30 h
  rw [cells30] at hl
  match cs, hl with
  | [c0, c1, c2, c3, c4, c5], _ =>
    obtain ⟨_, _, g0⟩ := hf 0 3 0 (by omega) (by kernel_rfl)
    obtain ⟨_, _, g1⟩ := hf 1 9 1 (by omega) (by kernel_rfl)
    obtain ⟨_, _, g2⟩ := hf 2 3 2 (by omega) (by kernel_rfl)
    obtain ⟨_, _, g3⟩ := hf 3 3 3 (by omega) (by kernel_rfl)
    obtain ⟨_, _, g4⟩ := hf 4 3 4 (by omega) (by kernel_rfl)
    obtain ⟨_, _, g5⟩ := hf 5 3 5 (by omega) (by kernel_rfl)
    rw [cells3] at g0 g2 g3 g4 g5
    rw [cells9] at g1
    obtain ⟨n0, e0, _⟩ := DataW.trod_int Try.underlying3 g0
    obtain ⟨s1, e1, _, hs⟩ := DataW.trod_string Try.underlying9 g1
    obtain ⟨n2, e2, _⟩ := DataW.trod_int Try.underlying3 g2
    obtain ⟨n3, e3, _⟩ := DataW.trod_int Try.underlying3 g3
    obtain ⟨n4, e4, _⟩ := DataW.trod_int Try.underlying3 g4
    obtain ⟨n5, e5, _⟩ := DataW.trod_int Try.underlying3 g5
    simp at e0 e1 e2 e3 e4 e5
    subst e0 e1 e2 e3 e4 e5
    exact ⟨⟨n0, s1, n2, n3, n4, n5⟩, rfl, hs⟩
set_option maxRecDepth 100000 in
theorem open_ver {cs : List Value} {x : DataW H × List MemPlace} {fuel : Nat} (h : DataW.trod enc Try.prog w base spare held fuel 32 cs = some x) : ∃ v : Vr, cs = v.cells ∧ v.fc.kd.size ≤ maxLen := by
  obtain ⟨hl, hf⟩ := open_field str32 size32 h
  rw [cells32] at hl
  match cs, hl with
  | [c0, c1, c2, c3, c4, c5, c6, c7], _ =>
    obtain ⟨_, _, g0⟩ := hf 0 3 0 (by omega) (by kernel_rfl)
    obtain ⟨_, _, g1⟩ := hf 1 4 1 (by omega) (by kernel_rfl)
    obtain ⟨_, _, g2⟩ := hf 2 30 2 (by omega) (by kernel_rfl)
    rw [cells3] at g0
    rw [cells4] at g1
    rw [cells30] at g2
    obtain ⟨n0, e0, _⟩ := DataW.trod_int Try.underlying3 g0
    obtain ⟨b1, e1, _⟩ := DataW.trod_bool Try.underlying4 g1
    obtain ⟨f, e2, hs⟩ := open_fact g2
    simp at e0 e1
    subst e0 e1
    simp [Fc.cells] at e2
    obtain ⟨rfl, rfl, rfl, rfl, rfl, rfl⟩ := e2
    exact ⟨⟨n0, b1, f⟩, rfl, hs⟩
theorem add_none (b off n : Nat) : (⟨b, off, none⟩ : Addr).add n = ⟨b, off + n, none⟩ := by
  by_cases h : n = 0
  · subst h; simp [Addr.add]
  · simp [Addr.add, h]
theorem open_vers {a0 : Option Addr} {len cap fuel : Nat} {x : DataW H × List MemPlace} (h : DataW.trod enc Try.prog w base spare held fuel 22 (Value.slice a0 len cap).cells.toList = some x) :
    ∃ l : List Vr, len ≤ cap ∧ cap ≤ maxLen ∧ SV w w.heap.size a0 len l ∧ ∀ k, k < len → (vat l k).fc.kd.size ≤ maxLen := by
  rcases open_slice Try.underlying22 h with ⟨hcs, _⟩ | ⟨a, len', cap', m, n, D, Pl, hcs, _, hl, hm, hmm, _, hi⟩
  · simp [Value.cells] at hcs
    obtain ⟨rfl, rfl, rfl⟩ := hcs
    exact ⟨[], Nat.le_refl _, by simp [maxLen], ⟨rfl, fun h => absurd h (by omega)⟩, fun k hk => absurd hk (by omega)⟩
  · simp [Value.cells] at hcs
    obtain ⟨rfl, rfl, rfl⟩ := hcs
    have hlm : len ≤ m := by rw [hmm]; split <;> omega
    have hall : ∀ i : Nat, ∃ v : Vr, i < len → v.fc.kd.size ≤ maxLen ∧ ∀ j, j < 8 → w.cell? (a.add (i * 8 + j)) = v.cells[j]? := fun i => by
      by_cases hil : i < len
      · obtain ⟨cs', h1, h2⟩ := hi i (by omega)
        rw [cells32] at h1
        obtain ⟨v, rfl, hs⟩ := open_ver h2
        obtain ⟨_, _, h3⟩ := World.cells?_some h1
        exact ⟨v, fun _ => ⟨hs, fun j hj => by rw [← h3 j hj, Go.Deep.add_add]⟩⟩
      · exact ⟨default, fun h => absurd h hil⟩
    obtain ⟨F, hF⟩ := Classical.axiomOfChoice hall
    have hv : ∀ k, k < len → vat ((List.range len).map F) k = F k := fun k hk => by simp [vat, hk]
    refine ⟨(List.range len).map F, hl, hm, ⟨by simp, fun h0 => ?_⟩, fun k hk => by rw [hv k hk]; exact (hF k hk).1⟩
    obtain ⟨b, off, spot⟩ := a
    have hc : w.cell? (Addr.add ⟨b, off, spot⟩ 0) = some (.int .i64 (F 0).op) := (hF 0 h0).2 0 (by omega)
    have hspot : spot = none := by simpa [Addr.add] using World.cell?_spot hc
    subst hspot
    have hb : b < w.heap.size := by
      have hc' : w.cell? ⟨b, off, none⟩ = some (.int .i64 (F 0).op) := by rw [add_none] at hc; exact hc
      by_cases hb : b < w.heap.size
      · exact hb
      · exfalso
        unfold World.cell? at hc'
        rw [show w.heap[b]? = none from Array.getElem?_eq_none (by omega)] at hc'
        simp at hc'
    refine ⟨b, off, rfl, hb, fun i hil j u hu => ?_⟩
    have hu' : (F i).cells[j]? = some u := by rw [← hv i hil]; exact hu
    have hj : j < 8 := (List.getElem?_eq_some_iff.1 hu').1
    have := (hF i hil).2 j hj
    rw [add_none, hu', ← Nat.add_assoc] at this
    exact this
end

set_option maxRecDepth 100000 in
set_option maxHeartbeats 1000000 in
theorem checks_walk (A : Option Addr) (n c : Nat) (l : List Vr) (A' : Option Addr) (n' c' : Nat) (f : Nat → Int) (w : World) (hn1 : n ≤ c) (_hc1 : c ≤ maxLen) (h : SV w w.heap.size A n l) (hk : ∀ k, k < n → (vat l k).fc.kd.size ≤ maxLen)
    (hn : n' ≤ maxLen) (hnc : n' ≤ c') (hcm : c' ≤ maxLen) (h' : SI w w.heap.size A' n' f) :
    Calls Try.prog 3 #[.slice A n c, .slice A' n' c'] w fun e w' => e = .returned (.bool true) ∧ Ext w w' := by
  obtain ⟨n6, hn6, h60, hle⟩ : ∃ n6, n6 ≤ n ∧ n6 ≤ 60 ∧ (n6 = n ∨ n6 = 60 ∧ 60 < n) := by
    by_cases h : n ≤ 60
    · exact ⟨n, Nat.le_refl _, h, .inl rfl⟩
    · exact ⟨60, by omega, Nat.le_refl _, .inr ⟨rfl, by omega⟩⟩
  have HS6 := Lib.hid (SV.take h hn6)
  have HK6 := Lib.hid (show ∀ k, k < n6 → (vat (l.take n6) k).fc.kd.size ≤ maxLen from fun k hk6 => by
    have e : vat (l.take n6) k = vat l k := by simp [vat, hk6]
    rw [e]; exact hk k (by omega))
  have HS' := Lib.hid h'
  clear h h' hk
  rcases hle with rfl | ⟨rfl, hgt⟩
  · have hc6 : ((n6 : Nat) : Int) ≤ c := by omega
    have hc7 : n6 ≤ c := by omega
    go_enter Try.func3, Try.ntmps3
    go_wp2_with fail
    refine (check_any A n6 c (l.take n6) _ (by omega) HS6.out HK6.out).mono ?_
    rintro e w2 ⟨rfl, hx2⟩
    have HX2 := Lib.hid hx2
    clear hx2
    go_wp2_with fail
    refine (rcheck_any A n6 c (l.take n6) _ (by omega) hc7 (SV.lift HS6.out (Nat.le_refl _) HX2.out) HK6.out).mono ?_
    rintro e w3 ⟨rfl, hx3⟩
    have HX3 := Lib.hid (HX2.out.trans hx3)
    clear hx3
    generalize checkOf (l.take n6) = ck
    go_wp2_with fail
    refine (vs_any A' n' c' f w _ hn hnc hcm HS'.out HX3.out).mono ?_
    rintro e w4 ⟨L, A4, c4, top, rfl, hv, hg, _, _, hx4⟩
    have HV := Lib.hid hv
    have HX4 := Lib.hid (HX3.out.trans hx4)
    have hL := hv.n40
    clear hv hg hx4
    go_wp2_with fail
    refine (check_any A4 _ c4 L _ (by omega) HV.out.sv HV.out.kd).mono ?_
    rintro e w5 ⟨rfl, hx5⟩
    rw [HV.out.ok]
    have HX5 := Lib.hid (HX4.out.trans hx5)
    clear hx5
    go_wp2_with fail
    refine (lives_any _).mono ?_
    rintro e w6 ⟨rfl, hx6⟩
    go_wp2
    go_ret
    exact ⟨rfl, HX5.out.trans hx6⟩
  · have hc6 : ((60 : Nat) : Int) ≤ c := by omega
    have hc7 : 60 ≤ c := by omega
    go_enter Try.func3, Try.ntmps3
    go_wp2_with fail
    refine (check_any A 60 c (l.take 60) _ (by omega) HS6.out HK6.out).mono ?_
    rintro e w2 ⟨rfl, hx2⟩
    have HX2 := Lib.hid hx2
    clear hx2
    go_wp2_with fail
    refine (rcheck_any A 60 c (l.take 60) _ (by omega) hc7 (SV.lift HS6.out (Nat.le_refl _) HX2.out) HK6.out).mono ?_
    rintro e w3 ⟨rfl, hx3⟩
    have HX3 := Lib.hid (HX2.out.trans hx3)
    clear hx3
    generalize checkOf (l.take 60) = ck
    go_wp2_with fail
    refine (vs_any A' n' c' f w _ hn hnc hcm HS'.out HX3.out).mono ?_
    rintro e w4 ⟨L, A4, c4, top, rfl, hv, hg, _, _, hx4⟩
    have HV := Lib.hid hv
    have HX4 := Lib.hid (HX3.out.trans hx4)
    have hL := hv.n40
    clear hv hg hx4
    go_wp2_with fail
    refine (check_any A4 _ c4 L _ (by omega) HV.out.sv HV.out.kd).mono ?_
    rintro e w5 ⟨rfl, hx5⟩
    rw [HV.out.ok]
    have HX5 := Lib.hid (HX4.out.trans hx5)
    clear hx5
    go_wp2_with fail
    refine (lives_any _).mono ?_
    rintro e w6 ⟨rfl, hx6⟩
    go_wp2
    go_ret
    exact ⟨rfl, HX5.out.trans hx6⟩

set_option maxRecDepth 100000 in
set_option maxHeartbeats 1000000 in
theorem appends_walk (A' : Option Addr) (n' c' : Nat) (f : Nat → Int) (v : Vr) (w : World) (hn : n' ≤ maxLen) (hnc : n' ≤ c') (hcm : c' ≤ maxLen) (h' : SI w w.heap.size A' n' f) (hs : v.fc.kd.size ≤ maxLen) :
    Calls Try.prog 4 #[.slice A' n' c', v.val] w fun e w' => e = .returned (.bool true) ∧ Ext w w' := by
  have HS' := Lib.hid h'; clear h'
  unfold Vr.val
  go_enter Try.func4, Try.ntmps4
  go_wp2_with fail
  refine (vs_any A' n' c' f w _ hn hnc hcm HS'.out ((Ext.refl w).alloc _)).mono ?_
  rintro e w2 ⟨L, A2, c2, top, rfl, hv, hg, _, _, hx2⟩
  have HV := Lib.hid hv
  have hL := hv.n40
  have HX2 := Lib.hid (((Ext.refl w).alloc (.cells #[.int .i64 v.op, .bool v.st, .int .i64 v.fc.en, .string v.fc.kd, .int .i64 v.fc.day, .int .i64 v.fc.byy, .int .i64 v.fc.too, .int .i64 v.fc.am] 32)).trans hx2)
  have HB := Lib.hid ((Bk.new w 32 #[.int .i64 v.op, .bool v.st, .int .i64 v.fc.en, .string v.fc.kd, .int .i64 v.fc.day, .int .i64 v.fc.byy, .int .i64 v.fc.too, .int .i64 v.fc.am]).ext hx2)
  obtain ⟨q1, p1⟩ := HB.out.cells
  clear hv hg hx2 HS'
  go_wp2_with fail
  refine (pappend_any A2 _ c2 L v _ (by omega) HV.out.sv hs HV.out.kd HV.out.ok).mono ?_
  rintro e w3 ⟨hres, hx3⟩
  have HX3 := Lib.hid hx3
  obtain ⟨q2, p2⟩ := (HB.out.ext hx3).cells
  clear q1 p1 hx3
  have HRA := Lib.hid (fun W (hW : Ext w2 W) => rappend_any A2 _ c2 L v W (by omega) (HV.out.at_ hW) hs)
  rcases hres with ⟨hw, rfl⟩ | ⟨hw, A4, c4, rfl, ho⟩
  · go_wp2_with fail
    refine (HRA.out _ HX3.out).mono ?_
    rintro e w4 ⟨hres, hx4⟩
    rcases hres with ⟨_, rfl⟩ | ⟨h0, _⟩
    case inr => exact absurd h0 hw
    have HX4 := Lib.hid (HX3.out.trans hx4)
    have HW := Lib.hid hw
    clear hx4 hw HRA q2 p2
    generalize wrongOf L v = ck
    go_wp2_with fail
    refine (sameV_eq _ none none 0 0 [] [] ⟨rfl, fun h => absurd h (by simp)⟩ ⟨rfl, fun h => absurd h (by simp)⟩ (by simp) (by simp) rfl).mono ?_
    rintro e w5 ⟨rfl, hx5⟩
    have HX5 := Lib.hid (HX4.out.trans hx5)
    clear hx5
    go_wp2_with fail
    refine (lives_any _).mono ?_
    rintro e w6 ⟨rfl, hx6⟩
    go_wp2
    go_ret
    exact ⟨rfl, HX2.out.trans (HX5.out.trans hx6)⟩
  · have HO := Lib.hid ho
    clear ho
    go_wp2_with fail
    refine (HRA.out _ HX3.out).mono ?_
    rintro e w4 ⟨hres, hx4⟩
    rcases hres with ⟨h0, _⟩ | ⟨_, A5, c5, rfl, ho5⟩
    case inl => exact absurd hw h0
    have hs4 := (OV.sv (HO.out.ext hx4)).2
    have hs5 := (OV.sv ho5).2
    have hll : (L ++ [v]).length = L.length + 1 := by simp
    have HS4 := Lib.hid hs4
    have HS5 := Lib.hid hs5
    have HX4 := Lib.hid (HX3.out.trans hx4)
    clear hx4 hw HRA q2 p2 hs4 hs5 ho5
    go_wp2_with fail
    rw [← hll]
    refine (sameV_eq _ A4 A5 c4 c5 _ _ HS4.out HS5.out (by omega) (by omega) rfl).mono ?_
    rintro e w5 ⟨rfl, hx5⟩
    have HX5 := Lib.hid (HX4.out.trans hx5)
    clear hx5
    go_wp2_with fail
    refine (lives_any _).mono ?_
    rintro e w6 ⟨rfl, hx6⟩
    go_wp2
    go_ret
    exact ⟨rfl, HX2.out.trans (HX5.out.trans hx6)⟩
end Go.Proofs.Ythjjdeabfnlbjaa
