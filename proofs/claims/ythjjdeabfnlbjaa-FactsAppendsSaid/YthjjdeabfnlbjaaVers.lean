/- The contract of rollbookref18.Versions: a valid list of up to 40 versions in memory of its own. -/
import Derived.Test.YthjjdeabfnlbjaaApp
import Derived.Test.YthjjdeabfnlbjaaMake
import Derived.Test.YthjjdeabfnlbjaaPlain3
import Derived.Deep.DeepCutAuto
namespace Go.Proofs.Ythjjdeabfnlbjaa
open Go Go.RowKit

theorem OV.ext {w w' : World} {base : Nat} {v : Value} {l : List Vr} (h : OV w base v l) (hx : Ext w w') : OV w' base v l :=
  World.ownsRow.kept h (row := none) (grownBy_ext hx none) (by cases hv : v.ownBlock <;> simp)
theorem OF.ext {w w' : World} {base : Nat} {v : Value} {l : List Fc} (h : OF w base v l) (hx : Ext w w') : OF w' base v l :=
  World.ownsRow.kept h (row := none) (grownBy_ext hx none) (by cases hv : v.ownBlock <;> simp)
theorem SI.drop {w : World} {B : Nat} {A : Option Addr} {n : Nat} {f : Nat → Int} (h : SI w B A n f) {k : Nat} (hk : k ≤ n) : SI w B (A.map (·.add k)) (n - k) (fun i => f (k + i)) := by
  refine ⟨fun h0 => ?_, fun i hi => h.2 (k + i) (by omega)⟩
  obtain ⟨b, off, rfl, hb, hc⟩ := h.1 (by omega)
  refine ⟨b, off + k, by simp [Addr.add_lit], hb, fun i hi j u hu => ?_⟩
  have := hc (k + i) (by omega) j u hu
  rwa [show off + (k + i) * 1 + j = off + k + i * 1 + j by omega] at this

def Cut7 (op : Int) (wr : World) (s6 : Value) (wx : World) : Prop := ∃ (v : Vr) (X : Nat), s6 = .pointer (some ⟨X, 0, none⟩) ∧ wr.heap.size ≤ X ∧ Bk wx X 32 #[.int .i64 v.op, .bool v.st, .int .i64 v.fc.en, .string v.fc.kd, .int .i64 v.fc.day, .int .i64 v.fc.byy, .int .i64 v.fc.too, .int .i64 v.fc.am] ∧ Ext wr wx ∧ v.op = op ∧ okF v.fc = true ∧ 0 ≤ v.fc.en ∧ v.fc.en ≤ 5
theorem Ext.of_drew {w w' : World} (h : Ext w.drew w') : Ext w w' := ⟨h.os, h.tape, h.output, h.size, h.block⟩
theorem cut7_new {op : Int} {wr W : World} (hx : Ext wr W) {o : Int} {x : Bool} {f1 : Int} {f2 : ByteArray} {f3 f4 f5 f6 : Int} (ho : o = op) (hk : okF ⟨f1, f2, f3, f4, f5, f6⟩ = true) (h1 : 0 ≤ f1) (h2 : f1 ≤ 5) :
    Cut7 op wr (.pointer (some ⟨W.heap.size, 0, none⟩)) (W.alloc (.cells #[.int .i64 o, .bool x, .int .i64 f1, .string f2, .int .i64 f3, .int .i64 f4, .int .i64 f5, .int .i64 f6] 32)) :=
  ⟨⟨o, x, ⟨f1, f2, f3, f4, f5, f6⟩⟩, W.heap.size, rfl, hx.lt, Bk.new W 32 _, hx.alloc _, ho, hk, h1, h2⟩
theorem cut7_old {op : Int} {wr W : World} (hx : Ext wr W) (hb : Bk W wr.heap.size 32 #[.int .i64 0, .bool false, .int .i64 0, .string ⟨#[]⟩, .int .i64 0, .int .i64 0, .int .i64 0, .int .i64 0]) {o : Int} {x : Bool} {f1 : Int} {f2 : ByteArray} {f3 f4 f5 f6 : Int} (ho : o = op) (hk : okF ⟨f1, f2, f3, f4, f5, f6⟩ = true) (h1 : 0 ≤ f1) (h2 : f1 ≤ 5) :
    Cut7 op wr (.pointer (some ⟨wr.heap.size, 0, none⟩)) ((((((((W.setCell ⟨wr.heap.size, 0, none⟩ (.int .i64 o)).setCell ⟨wr.heap.size, 1, none⟩ (.bool x)).setCell ⟨wr.heap.size, 2, none⟩ (.int .i64 f1)).setCell ⟨wr.heap.size, 3, none⟩ (.string f2)).setCell ⟨wr.heap.size, 4, none⟩ (.int .i64 f3)).setCell ⟨wr.heap.size, 5, none⟩ (.int .i64 f4)).setCell ⟨wr.heap.size, 6, none⟩ (.int .i64 f5)).setCell ⟨wr.heap.size, 7, none⟩ (.int .i64 f6)) := by
  refine ⟨⟨o, x, ⟨f1, f2, f3, f4, f5, f6⟩⟩, wr.heap.size, rfl, Nat.le_refl _, ?_, ?_, ho, hk, h1, h2⟩
  · have h8 := (((((((hb.set 0 (.int .i64 o)).set 1 (.bool x)).set 2 (.int .i64 f1)).set 3 (.string f2)).set 4 (.int .i64 f3)).set 5 (.int .i64 f4)).set 6 (.int .i64 f5)).set 7 (.int .i64 f6)
    simpa using h8
  · iterate 8 (refine Ext.setCell ?_ (Nat.le_refl _) _)
    exact hx

theorem OV.sv {w : World} {base : Nat} {A : Option Addr} {n c : Nat} {l : List Vr} (h : OV w base (.slice A n c) l) : n = l.length ∧ SV w w.heap.size A l.length l := by
  obtain ⟨A', c', e, _, h2⟩ := h.form
  injection e with e1 e2 e3
  subst e1
  exact ⟨e2, h2⟩

def VersPost (w : World) (e : Ending) (w' : World) : Prop := ∃ (L : List Vr) (A : Option Addr) (c : Nat) (top : Int), e = .returned (.slice A L.length c) ∧ L.length ≤ 40 ∧ L.length ≤ c ∧ GoodV L top ∧ 0 ≤ top ∧ top ≤ 200 ∧ OV w' w.heap.size (.slice A L.length c) L ∧ Ext w w'

set_option maxRecDepth 100000 in
set_option maxHeartbeats 1000000 in
theorem vers_any (A : Option Addr) (n c : Nat) (f : Nat → Int) (w : World) (hn : n ≤ maxLen) (hnc : n ≤ c) (hcm : c ≤ maxLen) (h : SI w w.heap.size A n f) :
    Calls Try.prog 14 #[.slice A n c] w (VersPost w) := by
  have HS := Lib.hid h; clear h
  unfold maxLen at hn hcm
  go_enter Try.func14, Try.ntmps14
  go_wp2
  go_loopw [3, 4, 5] (fun o p i wr => ∃ (L : List Vr) (A' : Option Addr) (c' : Nat) (op : Int), o = .slice A' L.length c' ∧ p = .int .i64 op ∧ i = .int .i64 (8 * (L.length : Int)) ∧ L.length ≤ 40 ∧ L.length ≤ c' ∧ GoodV L op ∧ 0 ≤ op ∧ op ≤ 4 * L.length ∧ OV wr w.heap.size (.slice A' L.length c') L ∧ Ext w wr) (fun _ _ i _ => 400 - (intOf i).toNat)
  case atStart => exact ⟨[], none, 0, 0, rfl, rfl, rfl, by simp, Nat.le_refl _, GoodV.nil, by omega, by simp, OV.nil _ _, Ext.refl _⟩
  case round =>
    obtain ⟨L, A', c', op, rfl, rfl, rfl, hL, hLc, hg, ho1, ho2, hown, hx⟩ := hrel
    have HG := Lib.hid hg; clear hg
    have HO := Lib.hid hown; clear hown
    by_cases h40 : L.length = 40
    · have d2 : decide ((L.length : Int) < 40) = false := by simp; omega
      have d3 : ¬ (L.length : Int) < 40 := by omega
      have HL40 := Lib.hid h40; clear h40
      by_cases hlt : 8 * L.length + 1 < n
      · have d1 : 8 * (L.length : Int) + 1 < (n : Int) := by omega
        go_wp2
        go_ret
        exact ⟨L, A', c', op, rfl, hL, hLc, HG.out, ho1, by omega, HO.out, hx⟩
      · have d1 : ¬ 8 * (L.length : Int) + 1 < (n : Int) := by omega
        go_wp2
        go_ret
        exact ⟨L, A', c', op, rfl, hL, hLc, HG.out, ho1, by omega, HO.out, hx⟩
    · by_cases hlt : 8 * L.length + 1 < n
      · have hSI := SI.lift HS.out (Nat.le_refl _) hx
        obtain ⟨b, off, rfl, hb, c0⟩ := hSI.at_ (k := 8 * L.length) (by omega)
        have hr := HS.out.2 (8 * L.length) (by omega)
        have d1 : (8 * (L.length : Int) + 1 < (n : Int)) := by omega
        have d2 : (L.length : Int) < 40 := by omega
        go_wp2_with fail
        refine (around_any _ 4 _ hr.1 hr.2 (by omega) (by omega)).mono ?_
        rintro e w' ⟨r, rfl, hr1, hr2, rfl⟩
        have hx0 := hx
        have d3 : 8 * (L.length : Int) + 2 ≤ (n : Int) := by omega
        have d4 : ((n : Int) < 8 * (L.length : Int) + 2) = False := eq_false (by omega)
        have d6 : (0 : Int) ≤ 8 * (L.length : Int) + 2 := by omega
        have d5 : 8 * (L.length : Int) + 2 ≤ (c : Int) := by omega
        by_cases hcap : c = 8 * L.length + 2
        · obtain rfl : n = 8 * L.length + 2 := by omega
          subst hcap
          have HPK : ∀ (W : World) (i : Int), Ext w W → Calls Try.prog 32 #[.slice (some ⟨b, off, none⟩) (8 * L.length + 2) (8 * L.length + 2), .int .i64 i, .int .i64 3] W (IntSame 0 3 W) := fun W i hW => pick_same _ (8 * L.length + 2) (8 * L.length + 2) f i 3 W (SI.lift HS.out (Nat.le_refl _) hW) (by omega) (by omega)
          have HPK2 := Lib.hid HPK; clear HPK
          have HFK : ∀ W : World, Ext w W → Calls Try.prog 33 #[.slice (some ⟨b, off, none⟩) 0 0] W (FactPost W) := fun W _ => fact_any _ 0 0 (fun _ => 0) W ⟨fun h => absurd h (by omega), fun i h => absurd h (by omega)⟩
          have HFK2 := Lib.hid HFK; clear HFK
          have hw1 : IntKind.i64.wrap (8 * (L.length : Int) + 1) = 8 * (L.length : Int) + 1 := IntWalk.i64_in _ (by omega)
          have hw2 : IntKind.i64.wrap (8 * (L.length : Int) + 2) = 8 * (L.length : Int) + 2 := IntWalk.i64_in _ (by omega)
          have hw3 : (8 * (L.length : Int) + 2).toNat = 8 * L.length + 2 := by omega
          go_upto_region 7 with (fail)
          go_cut [6] (fun s6 wx => Cut7 (op + r) wr s6 wx)
          case first =>
            go_region_law (first | (go_simp; go_at_call 32; refine (HPK2.out _ _ (by first | exact hx0.drew | exact (hx0.alloc _).drew)).mono ?_; rintro e w' ⟨r2, rfl, hr3, hr4, rfl⟩; simp only []) | (go_simp; go_at_call 33; refine (HFK2.out _ (by first | exact hx0.drew | exact (hx0.alloc _).drew)).mono ?_; rintro e W ⟨⟨f1, f2, f3, f4, f5, f6⟩, rfl, hfo, hf1, hf2, hxf⟩; simp only [Fc.val]; simp only at hf1 hf2; have HFO := Lib.hid hfo; clear hfo; (try (have tg : Ext (wr.alloc (.cells #[.int .i64 0, .bool false, .int .i64 0, .string ⟨#[]⟩, .int .i64 0, .int .i64 0, .int .i64 0, .int .i64 0] 32)).drew W := (by with_reducible exact hxf); obtain ⟨q, p⟩ := (Bk.ext (Bk.drew (Bk.new wr 32 _)) tg).cells; clear tg))))
            all_goals
              go_wp2_with fail
              go_meet
              case rel =>
                first
                  | exact cut7_new (Ext.of_drew hxf) rfl HFO.out hf1 hf2
                  | exact cut7_old (((Ext.refl wr).alloc _).drew.trans hxf) (Bk.ext (Bk.drew (Bk.new wr 32 _)) hxf) rfl HFO.out hf1 hf2
          case rest =>
            obtain ⟨v, X, hs6, hX, hbk, hxw, hvop, hvf, hv1, hv2⟩ := hcut
            subst hs6
            have HBK := Lib.hid hbk
            obtain ⟨q1, p1⟩ := hbk.cells
            clear hbk
            have HVOP := Lib.hid hvop; clear hvop
            go_wp2_with fail
            refine (wrong_any A' L.length c' L v _ (by omega) (OV.sv (OV.ext HO.out hxw)).2 (by have := okF_size hvf; simp only [maxLen]; omega)).mono ?_
            rintro e w2 ⟨rfl, hx2⟩
            have hb2 := HBK.out.ext hx2
            have HB2 := Lib.hid hb2; clear hb2
            have hxr2 := hxw.trans hx2
            clear q1 p1 hx2 hxw
            have hvop := HVOP.out
            by_cases he : wrongOf L v = 0
            · have HE := Lib.hid he
              have hvb1 : 0 ≤ v.op := by omega
              have hb3 := HB2.out
              have hxr3 := hxr2
              have hx3 : Ext w w2 := hx.trans hxr3
              have HB3 := Lib.hid hb3
              obtain ⟨q3, p3⟩ := hb3.cells
              obtain ⟨A2, c2, w3, hrun, hown3, hb4, _⟩ := ((OV.ext HO.out hxr3).alloc (.cells #[.int .i64 v.op, .bool v.st, .int .i64 v.fc.en, .string v.fc.kd, .int .i64 v.fc.day, .int .i64 v.fc.byy, .int .i64 v.fc.too, .int .i64 v.fc.am] 32)).append (SV.one w2 v 32) 1 (by omega) (le_alloc hx3.lt _)
              have hx4 : Ext w w3 := Below.trans (hx3.alloc _) (hb4 _ (Nat.le_refl _))
              have hG : GoodV (L ++ [v]) (op + r) := HG.out.snoc (by omega) (by omega) hvop hvf hv1 hv2 HE.out
              have hOW : OV w3 w.heap.size (.slice A2 (L ++ [v]).length c2) (L ++ [v]) := by simpa using hown3
              have hlc : (L ++ [v]).length ≤ c2 := by obtain ⟨A9, c9, e9, h9, _⟩ := hOW.form; injection e9 with _ _ e9; omega
              have HGG := Lib.hid hG
              have HOW := Lib.hid hOW
              have HLC := Lib.hid hlc
              have HX4 := Lib.hid hx4
              clear hG hOW hlc hx4 hown3 hb4 hb3 hxr3 hx3 hvop
              go_wp2_with (first | (at_builtin; refine wpList_append_run (s := .tmp 46) (x := .tmp 48) hrun rfl rfl rfl rfl rfl ?_))
              exact ⟨⟨L ++ [v], A2, c2, op + r, by simp, rfl, by simp; omega, by simp; omega, HLC.out, HGG.out, by omega, by simp; omega, HOW.out, HX4.out⟩, by simp [intOf]; omega⟩
            · have HE := Lib.hid he
              have hb1 : (wrongOf L v == 0) = false := by simpa using he
              have hb2 : (wrongOf L v != 0) = true := by simpa using he
              obtain ⟨q2, p2⟩ := HB2.out.cells
              have hb3 : Bk (w2.setCell ⟨X, 1, none⟩ (.bool false)) X 32 #[.int .i64 v.op, .bool false, .int .i64 v.fc.en, .string v.fc.kd, .int .i64 v.fc.day, .int .i64 v.fc.byy, .int .i64 v.fc.too, .int .i64 v.fc.am] := by simpa using (HB2.out.set 1 (.bool false))
              have hxr3 : Ext wr (w2.setCell ⟨X, 1, none⟩ (.bool false)) := hxr2.setCell (p := ⟨X, 1, none⟩) hX _
              have hx3 : Ext w (w2.setCell ⟨X, 1, none⟩ (.bool false)) := hx.trans hxr3
              have HB3 := Lib.hid hb3
              obtain ⟨q3, p3⟩ := hb3.cells
              obtain ⟨A2, c2, w3, hrun, hown3, hb4, _⟩ := ((OV.ext HO.out hxr3).alloc (.cells #[.int .i64 v.op, .bool false, .int .i64 v.fc.en, .string v.fc.kd, .int .i64 v.fc.day, .int .i64 v.fc.byy, .int .i64 v.fc.too, .int .i64 v.fc.am] 32)).append (SV.one (w2.setCell ⟨X, 1, none⟩ (.bool false)) ⟨v.op, false, v.fc⟩ 32) 1 (by omega) (le_alloc hx3.lt _)
              rw [show (w2.setCell ⟨X, 1, none⟩ (.bool false)).heap.size = w2.heap.size from by simp [World.setCell]] at hrun
              have hx4 : Ext w w3 := Below.trans (hx3.alloc _) (hb4 _ (Nat.le_refl _))
              have hG : GoodV (L ++ [(⟨v.op, false, v.fc⟩ : Vr)]) (op + r) := HG.out.snoc (by omega) (by omega) hvop hvf hv1 hv2 (HG.out.plain (v := ⟨v.op, false, v.fc⟩) (by show 0 ≤ v.op; omega) (by show op ≤ v.op; omega) hvf rfl)
              have hOW : OV w3 w.heap.size (.slice A2 (L ++ [(⟨v.op, false, v.fc⟩ : Vr)]).length c2) (L ++ [(⟨v.op, false, v.fc⟩ : Vr)]) := by simpa using hown3
              have hlc : (L ++ [(⟨v.op, false, v.fc⟩ : Vr)]).length ≤ c2 := by obtain ⟨A9, c9, e9, h9, _⟩ := hOW.form; injection e9 with _ _ e9; omega
              have HGG := Lib.hid hG
              have HOW := Lib.hid hOW
              have HLC := Lib.hid hlc
              have HX4 := Lib.hid hx4
              clear hG hOW hlc hx4 hown3 hb4 hb3 hxr3 hx3 hvop
              go_wp2_with (first | (at_builtin; refine wpList_append_run (s := .tmp 46) (x := .tmp 48) hrun rfl rfl rfl rfl rfl ?_))
              exact ⟨⟨L ++ [(⟨v.op, false, v.fc⟩ : Vr)], A2, c2, op + r, by simp, rfl, by simp; omega, by simp; omega, HLC.out, HGG.out, by omega, by simp; omega, HOW.out, HX4.out⟩, by simp [intOf]; omega⟩
        · have HPK : ∀ (W : World) (i : Int), Ext w W → Calls Try.prog 32 #[.slice (some ⟨b, off, none⟩) n c, .int .i64 i, .int .i64 3] W (IntSame 0 3 W) := fun W i hW => pick_same _ n c f i 3 W (SI.lift HS.out (Nat.le_refl _) hW) (by omega) (by omega)
          have HPK2 := Lib.hid HPK; clear HPK
          have HFK : ∀ W : World, Ext w W → Calls Try.prog 33 #[.slice (some ⟨b, off + (8 * L.length + 2), none⟩) (n - (8 * L.length + 2)) (c - (8 * L.length + 2))] W (FactPost W) := fun W hW => by
            have := fact_any _ _ (c - (8 * L.length + 2)) _ W ((SI.lift HS.out (Nat.le_refl _) hW).drop (k := 8 * L.length + 2) (by omega))
            simpa only [Option.map_some, Addr.add_lit] using this
          have HFK2 := Lib.hid HFK; clear HFK
          have hw1 : IntKind.i64.wrap (8 * (L.length : Int) + 1) = 8 * (L.length : Int) + 1 := IntWalk.i64_in _ (by omega)
          have hw2 : IntKind.i64.wrap (8 * (L.length : Int) + 2) = 8 * (L.length : Int) + 2 := IntWalk.i64_in _ (by omega)
          have hw3 : (8 * (L.length : Int) + 2).toNat = 8 * L.length + 2 := by omega
          go_upto_region 7 with (fail)
          go_cut [6] (fun s6 wx => Cut7 (op + r) wr s6 wx)
          case first =>
            go_region_law (first | (go_simp; go_at_call 32; refine (HPK2.out _ _ (by first | exact hx0.drew | exact (hx0.alloc _).drew)).mono ?_; rintro e w' ⟨r2, rfl, hr3, hr4, rfl⟩; simp only []) | (go_simp; go_at_call 33; refine (HFK2.out _ (by first | exact hx0.drew | exact (hx0.alloc _).drew)).mono ?_; rintro e W ⟨⟨f1, f2, f3, f4, f5, f6⟩, rfl, hfo, hf1, hf2, hxf⟩; simp only [Fc.val]; simp only at hf1 hf2; have HFO := Lib.hid hfo; clear hfo; (try (have tg : Ext (wr.alloc (.cells #[.int .i64 0, .bool false, .int .i64 0, .string ⟨#[]⟩, .int .i64 0, .int .i64 0, .int .i64 0, .int .i64 0] 32)).drew W := (by with_reducible exact hxf); obtain ⟨q, p⟩ := (Bk.ext (Bk.drew (Bk.new wr 32 _)) tg).cells; clear tg))))
            all_goals
              go_wp2_with fail
              go_meet
              case rel =>
                first
                  | exact cut7_new (Ext.of_drew hxf) rfl HFO.out hf1 hf2
                  | exact cut7_old (((Ext.refl wr).alloc _).drew.trans hxf) (Bk.ext (Bk.drew (Bk.new wr 32 _)) hxf) rfl HFO.out hf1 hf2
          case rest =>
            obtain ⟨v, X, hs6, hX, hbk, hxw, hvop, hvf, hv1, hv2⟩ := hcut
            subst hs6
            have HBK := Lib.hid hbk
            obtain ⟨q1, p1⟩ := hbk.cells
            clear hbk
            have HVOP := Lib.hid hvop; clear hvop
            go_wp2_with fail
            refine (wrong_any A' L.length c' L v _ (by omega) (OV.sv (OV.ext HO.out hxw)).2 (by have := okF_size hvf; simp only [maxLen]; omega)).mono ?_
            rintro e w2 ⟨rfl, hx2⟩
            have hb2 := HBK.out.ext hx2
            have HB2 := Lib.hid hb2; clear hb2
            have hxr2 := hxw.trans hx2
            clear q1 p1 hx2 hxw
            have hvop := HVOP.out
            by_cases he : wrongOf L v = 0
            · have HE := Lib.hid he
              have hvb1 : 0 ≤ v.op := by omega
              have hb3 := HB2.out
              have hxr3 := hxr2
              have hx3 : Ext w w2 := hx.trans hxr3
              have HB3 := Lib.hid hb3
              obtain ⟨q3, p3⟩ := hb3.cells
              obtain ⟨A2, c2, w3, hrun, hown3, hb4, _⟩ := ((OV.ext HO.out hxr3).alloc (.cells #[.int .i64 v.op, .bool v.st, .int .i64 v.fc.en, .string v.fc.kd, .int .i64 v.fc.day, .int .i64 v.fc.byy, .int .i64 v.fc.too, .int .i64 v.fc.am] 32)).append (SV.one w2 v 32) 1 (by omega) (le_alloc hx3.lt _)
              have hx4 : Ext w w3 := Below.trans (hx3.alloc _) (hb4 _ (Nat.le_refl _))
              have hG : GoodV (L ++ [v]) (op + r) := HG.out.snoc (by omega) (by omega) hvop hvf hv1 hv2 HE.out
              have hOW : OV w3 w.heap.size (.slice A2 (L ++ [v]).length c2) (L ++ [v]) := by simpa using hown3
              have hlc : (L ++ [v]).length ≤ c2 := by obtain ⟨A9, c9, e9, h9, _⟩ := hOW.form; injection e9 with _ _ e9; omega
              have HGG := Lib.hid hG
              have HOW := Lib.hid hOW
              have HLC := Lib.hid hlc
              have HX4 := Lib.hid hx4
              clear hG hOW hlc hx4 hown3 hb4 hb3 hxr3 hx3 hvop
              go_wp2_with (first | (at_builtin; refine wpList_append_run (s := .tmp 46) (x := .tmp 48) hrun rfl rfl rfl rfl rfl ?_))
              exact ⟨⟨L ++ [v], A2, c2, op + r, by simp, rfl, by simp; omega, by simp; omega, HLC.out, HGG.out, by omega, by simp; omega, HOW.out, HX4.out⟩, by simp [intOf]; omega⟩
            · have HE := Lib.hid he
              have hb1 : (wrongOf L v == 0) = false := by simpa using he
              have hb2 : (wrongOf L v != 0) = true := by simpa using he
              obtain ⟨q2, p2⟩ := HB2.out.cells
              have hb3 : Bk (w2.setCell ⟨X, 1, none⟩ (.bool false)) X 32 #[.int .i64 v.op, .bool false, .int .i64 v.fc.en, .string v.fc.kd, .int .i64 v.fc.day, .int .i64 v.fc.byy, .int .i64 v.fc.too, .int .i64 v.fc.am] := by simpa using (HB2.out.set 1 (.bool false))
              have hxr3 : Ext wr (w2.setCell ⟨X, 1, none⟩ (.bool false)) := hxr2.setCell (p := ⟨X, 1, none⟩) hX _
              have hx3 : Ext w (w2.setCell ⟨X, 1, none⟩ (.bool false)) := hx.trans hxr3
              have HB3 := Lib.hid hb3
              obtain ⟨q3, p3⟩ := hb3.cells
              obtain ⟨A2, c2, w3, hrun, hown3, hb4, _⟩ := ((OV.ext HO.out hxr3).alloc (.cells #[.int .i64 v.op, .bool false, .int .i64 v.fc.en, .string v.fc.kd, .int .i64 v.fc.day, .int .i64 v.fc.byy, .int .i64 v.fc.too, .int .i64 v.fc.am] 32)).append (SV.one (w2.setCell ⟨X, 1, none⟩ (.bool false)) ⟨v.op, false, v.fc⟩ 32) 1 (by omega) (le_alloc hx3.lt _)
              rw [show (w2.setCell ⟨X, 1, none⟩ (.bool false)).heap.size = w2.heap.size from by simp [World.setCell]] at hrun
              have hx4 : Ext w w3 := Below.trans (hx3.alloc _) (hb4 _ (Nat.le_refl _))
              have hG : GoodV (L ++ [(⟨v.op, false, v.fc⟩ : Vr)]) (op + r) := HG.out.snoc (by omega) (by omega) hvop hvf hv1 hv2 (HG.out.plain (v := ⟨v.op, false, v.fc⟩) (by show 0 ≤ v.op; omega) (by show op ≤ v.op; omega) hvf rfl)
              have hOW : OV w3 w.heap.size (.slice A2 (L ++ [(⟨v.op, false, v.fc⟩ : Vr)]).length c2) (L ++ [(⟨v.op, false, v.fc⟩ : Vr)]) := by simpa using hown3
              have hlc : (L ++ [(⟨v.op, false, v.fc⟩ : Vr)]).length ≤ c2 := by obtain ⟨A9, c9, e9, h9, _⟩ := hOW.form; injection e9 with _ _ e9; omega
              have HGG := Lib.hid hG
              have HOW := Lib.hid hOW
              have HLC := Lib.hid hlc
              have HX4 := Lib.hid hx4
              clear hG hOW hlc hx4 hown3 hb4 hb3 hxr3 hx3 hvop
              go_wp2_with (first | (at_builtin; refine wpList_append_run (s := .tmp 46) (x := .tmp 48) hrun rfl rfl rfl rfl rfl ?_))
              exact ⟨⟨L ++ [(⟨v.op, false, v.fc⟩ : Vr)], A2, c2, op + r, by simp, rfl, by simp; omega, by simp; omega, HLC.out, HGG.out, by omega, by simp; omega, HOW.out, HX4.out⟩, by simp [intOf]; omega⟩
      · have d1 : decide (8 * (L.length : Int) + 1 < (n : Int)) = false := by simp; omega
        have d2 : ¬ 8 * (L.length : Int) + 1 < (n : Int) := by omega
        go_wp2
        go_ret
        exact ⟨L, A', c', op, rfl, hL, hLc, HG.out, ho1, by omega, HO.out, hx⟩
end Go.Proofs.Ythjjdeabfnlbjaa
