/- The contract of facts.At. -/
import Derived.Test.YthjjdeabfnlbjaaSortF
import Derived.Test.YthjjdeabfnlbjaaPlain4
namespace Go.Proofs.Ythjjdeabfnlbjaa
open Go Go.RowKit

def vmap (vs : List (Int × Vr)) : List (Int × Value) := vs.map fun p => (p.1, .agg #[.int .i64 p.2.op, .bool p.2.st, .int .i64 p.2.fc.en, .string p.2.fc.kd, .int .i64 p.2.fc.day, .int .i64 p.2.fc.byy, .int .i64 p.2.fc.too, .int .i64 p.2.fc.am])
theorem vmap_put (vs : List (Int × Vr)) (k : Int) (v : Vr) : IM.put (vmap vs) k (.agg #[.int .i64 v.op, .bool v.st, .int .i64 v.fc.en, .string v.fc.kd, .int .i64 v.fc.day, .int .i64 v.fc.byy, .int .i64 v.fc.too, .int .i64 v.fc.am]) = vmap (aput vs k v) := by
  induction vs with
  | nil => rfl
  | cons p r ih =>
    simp only [vmap, List.map_cons, IM.put, aput] at ih ⊢
    by_cases h : k = p.1
    · simp [h]
    · simp [h, ih]
theorem vmap_len (vs : List (Int × Vr)) : (vmap vs).length = vs.length := by simp [vmap]
theorem vmap_get (vs : List (Int × Vr)) (i : Nat) (q : Int × Value) (h : (vmap vs)[i]? = some q) : ∃ p, vs[i]? = some p ∧ q = (p.1, .agg #[.int .i64 p.2.op, .bool p.2.st, .int .i64 p.2.fc.en, .string p.2.fc.kd, .int .i64 p.2.fc.day, .int .i64 p.2.fc.byy, .int .i64 p.2.fc.too, .int .i64 p.2.fc.am]) := by
  unfold vmap at h
  rw [List.getElem?_map] at h
  obtain ⟨p, h1, h2⟩ := Option.map_eq_some_iff.1 h
  exact ⟨p, h1, h2.symm⟩

theorem nodup_lenN : ∀ (n : Nat) (ks : List Nat), ks.Nodup → (∀ x ∈ ks, x < n) → ks.length ≤ n
  | 0, ks, _, h => by
    cases ks with
    | nil => simp
    | cons x r => have := h x (.head _); omega
  | n + 1, ks, hn, h => by
    have h1 : (ks.erase n).length ≤ n := nodup_lenN n _ (hn.erase _) fun x hx => by
      have hm := (hn.mem_erase_iff.1 hx)
      have := h x hm.2
      have hne := hm.1
      omega
    have h2 : ks.length ≤ (ks.erase n).length + 1 := by
      rw [List.length_erase]
      split <;> omega
    omega
/-- What the loop over the map has gathered. -/
structure RSt (vs : List (Int × Vr)) (is : List Nat) (out : List Fc) : Prop where
  nodup : is.Nodup
  lt : ∀ i ∈ is, i < vs.length
  out : out = pickF vs is
theorem RSt.step {vs : List (Int × Vr)} {is : List Nat} {out : List Fc} (h : RSt vs is out) {i : Nat} {p : Int × Vr} (hp : vs[i]? = some p) (hi : i ∉ is) {o : List Fc} (ho : o = if p.2.st then [] else [p.2.fc]) : RSt vs (is ++ [i]) (out ++ o) := by
  have hl : i < vs.length := (List.getElem?_eq_some_iff.1 hp).1
  refine ⟨?_, fun j hj => ?_, by rw [pickF_snoc vs is i p hp, h.out, ho]⟩
  · rw [List.nodup_append]
    exact ⟨h.nodup, by simp, fun a ha b hb e => by simp at hb; subst hb; subst e; exact hi ha⟩
  · rcases List.mem_append.1 hj with h1 | h1
    · exact h.lt j h1
    · simp at h1; omega
theorem RSt.len {vs : List (Int × Vr)} {is : List Nat} {out : List Fc} (h : RSt vs is out) : is.length ≤ vs.length ∧ out.length ≤ is.length :=
  ⟨nodup_lenN _ _ h.nodup h.lt, by rw [h.out]; exact List.length_filterMap_le _ _⟩

theorem OF.block {w : World} {base : Nat} {v : Value} {l : List Fc} (h : OF w base v l) {k : Nat} (hk : v.ownBlock = some k) : ∃ cs, w.heap[k]? = some (.cells cs 30 (0, 0)) := by
  rcases h.2 with ⟨rfl, _⟩ | ⟨g, cap, cur, rfl, _, hg, _⟩
  · simp [Value.ownBlock] at hk
  · simp [Value.ownBlock] at hk; subst hk; exact ⟨cur, hg⟩
theorem OF.ne {w : World} {base : Nat} {v : Value} {l : List Fc} (h : OF w base v l) {k : Nat} {o : Obj} (hk : w.heap[k]? = some o) (ho : ∀ cs, o ≠ .cells cs 30 (0, 0)) : v.ownBlock ≠ some k := fun e => by
  obtain ⟨cs, hc⟩ := h.block e
  rw [hk] at hc
  exact ho cs (Option.some.inj hc)
theorem OF.alloc {w : World} {base : Nat} {v : Value} {l : List Fc} (h : OF w base v l) (o : Obj) : OF (w.alloc o) base v l := World.ownsRow.alloc h o
theorem IIt.seen {w : World} {r b n : Nat} {is : List Nat} (h : IIt w r b n is) : (w.iterSeen r).size = is.length := by
  unfold IIt at h; unfold World.iterSeen; rw [h]; simp
theorem ne_of_own {v : Value} {n k : Nat} (h : v.ownBlock ≠ some k) : ∀ a, v ≠ .slice (some ⟨k, 0, none⟩) n a := fun a e => h (by rw [e]; rfl)

theorem ins_nil (w : World) : Calls Try.prog 59 #[.slice none 0 0, .int .i64 0, .int .i64 0, .func (.func 38) #[] #[]] w fun e w' => e = .returned (.tuple #[]) ∧ w = w' := by
  go_enter Try.func59, Try.ntmps59
  go_wp2
  go_loop [8] (fun i => i = .int .i64 1) (fun _ => 0)
  case atStart => rfl
  case round =>
    subst hrel
    go_wp2
    go_end0
    exact ⟨rfl, rfl⟩
theorem pairwise_fat {m : List Fc} {n : Nat} (hn : m.length = n) (h : ∀ a b, a < b → b < n → (fat m a).en ≤ (fat m b).en) : m.Pairwise fun a b => a.en ≤ b.en := by
  rw [List.pairwise_iff_getElem]
  intro i j hi hj hij
  rw [fat_get hi, fat_get hj]
  exact h i j hij (by omega)
set_option maxRecDepth 100000 in
theorem pdq_nil (r : Int) (w : World) : Calls Try.prog 51 #[.slice none 0 0, .int .i64 0, .int .i64 0, .int .i64 r, .func (.func 38) #[] #[]] w fun e w' => e = .returned (.tuple #[]) ∧ w = w' := by
  go_enter Try.func51, Try.ntmps51
  go_wp2
  refine wp_loop_rounds 1 ?_
  rw [rounds_succ]
  go_wp2_with (first | (go_at_call 59; refine (ins_nil _).mono ?_; rintro e w1 ⟨rfl, rfl⟩))
  refine bodyPost_ret (results_none rfl _ _ _) rfl ?_
  exact ⟨rfl, rfl⟩
theorem sort_nil (w : World) : Calls Try.prog 37 #[.slice none 0 0, .func (.func 38) #[] #[]] w fun e w' => e = .returned (.tuple #[]) ∧ w = w' := by
  go_enter Try.func37, Try.ntmps37
  go_wp2_with (first | (go_at_call 52; refine (len_any 0 _ (by omega)).mono ?_; rintro e w' ⟨r, rfl, rfl⟩) | (go_at_call 51; refine (pdq_nil _ _).mono ?_; rintro e w1 ⟨rfl, rfl⟩))
  go_end0
  exact ⟨rfl, rfl⟩

def AtPost (l : List Vr) (op : Int) (w : World) (e : Ending) (w' : World) : Prop :=
  ∃ (m : List Fc) (A : Option Addr) (c : Nat), e = .returned (.slice A m.length c) ∧ IsAt l op m ∧ m.length ≤ 6 ∧ OF w' w.heap.size (.slice A m.length c) m ∧ Ext w w'

set_option maxRecDepth 100000 in
set_option maxHeartbeats 2000000 in
theorem at_any (A : Option Addr) (n c : Nat) (l : List Vr) (op : Int) (w : World) (hl : n ≤ 1000) (h : SV w w.heap.size A n l) (hen : ∀ k, k < n → 0 ≤ (vat l k).fc.en ∧ (vat l k).fc.en ≤ 5) :
    Calls Try.prog 20 #[.slice A n c, .int .i64 op] w (AtPost l op w) := by
  obtain rfl : l.length = n := h.1
  have HS := Lib.hid h; clear h
  have HEN := Lib.hid hen; clear hen
  have hmm := @run_makeMap Try.prog
  go_enter Try.func20, Try.ntmps20
  go_wp2
  clear hmm
  go_loopw [14] (fun i wr => ∃ (k : Nat) (vs : List (Int × Vr)), k ≤ l.length ∧ i = .int .i64 k ∧ IsMap (upto (l.take k) op) vs ∧ IMp wr w.heap.size (vmap vs) ∧ Ext w wr) (fun i _ => l.length - (intOf i).toNat)
  case atStart => exact ⟨0, [], Nat.zero_le _, rfl, IsMap.nil, IMp.made w, (Ext.refl _).alloc _⟩
  case round =>
    obtain ⟨k, vs, hk, rfl, hm, hmp, hx⟩ := hrel
    have HM := Lib.hid hm; clear hm
    have HMP := Lib.hid hmp; clear hmp
    by_cases hlt : k < l.length
    · have hlt' : (k : Int) < l.length := by omega
      obtain ⟨b, off, rfl, hb, c0, c1, c2, c3, c4, c5, c6, c7⟩ := SV.at_ (SV.lift HS.out (Nat.le_refl _) hx) (k := k) hlt
      by_cases hop : (vat l k).op ≤ op
      · have hm2 : IsMap (upto (l.take (k + 1)) op) (aput vs (vat l k).fc.en (vat l k)) := by rw [upto_take_succ hlt, if_pos hop]; exact HM.out.snoc _
        have HM2 := Lib.hid hm2; clear hm2
        obtain ⟨w3, hrun, hmp3, hg3⟩ := run_update_im (P := Try.prog) (t := 61) (HMP.out.alloc (.cells #[.int .i64 (vat l k).op, .bool (vat l k).st, .int .i64 (vat l k).fc.en, .string (vat l k).fc.kd, .int .i64 (vat l k).fc.day, .int .i64 (vat l k).fc.byy, .int .i64 (vat l k).fc.too, .int .i64 (vat l k).fc.am] 32)) Try.underlying61 Try.underlying3 (vat l k).fc.en (.agg #[.int .i64 (vat l k).op, .bool (vat l k).st, .int .i64 (vat l k).fc.en, .string (vat l k).fc.kd, .int .i64 (vat l k).fc.day, .int .i64 (vat l k).fc.byy, .int .i64 (vat l k).fc.too, .int .i64 (vat l k).fc.am])
        rw [vmap_put] at hmp3
        have HMP3 := Lib.hid hmp3; clear hmp3
        have HX3 := Lib.hid (grown_ext (hx.alloc _) hg3 (Nat.le_refl _)); clear hg3
        go_wp2
        exact ⟨⟨k + 1, _, by omega, by go_num, HM2.out, HMP3.out, HX3.out⟩, by simp [intOf]; omega⟩
      · have hm2 : IsMap (upto (l.take (k + 1)) op) vs := by rw [upto_take_succ hlt, if_neg hop]; exact HM.out
        have HM2 := Lib.hid hm2; clear hm2
        go_wp2
        exact ⟨⟨k + 1, vs, by omega, by go_num, HM2.out, HMP.out.alloc _, hx.alloc _⟩, by simp [intOf]; omega⟩
    · obtain rfl : k = l.length := by omega
      have hm2 := HM.out
      rw [List.take_length] at hm2
      have HM2 := Lib.hid hm2; clear hm2
      have hlen : vs.length ≤ 6 := by
        have := nodup_len6 6 (vs.map (·.1)) HM2.out.keys (fun x hx => by
          obtain ⟨p, hp, rfl⟩ := List.mem_map.1 hx
          have hg : aget vs p.1 = some p.2 := (aget_mem HM2.out.keys _ _).2 hp
          rw [HM2.out.get] at hg
          obtain ⟨h1, h2⟩ := lastOf_some hg
          obtain ⟨i, hi, he⟩ := List.mem_iff_getElem.1 (List.mem_filter.1 h1).1
          have := HEN.out i hi
          have e : vat l i = p.2 := by simp [vat, hi, he]
          rw [e] at this
          omega)
        simpa using this
      have hrr := run_range_im (P := Try.prog) (t := 61) HMP.out Try.underlying61
      go_wp2
      clear hrr
      have HX0 := Lib.hid hx
      obtain ⟨wo, rfl⟩ : ∃ wo : World, wo = wr := ⟨_, rfl⟩
      go_loopw [8] (fun o wx => ∃ (is : List Nat) (out : List Fc) (A' : Option Addr) (c' : Nat), o = .slice A' out.length c' ∧ RSt vs is out ∧ OF wx w.heap.size (.slice A' out.length c') out ∧ IMp wx w.heap.size (vmap vs) ∧ IIt wx wo.heap.size w.heap.size (vmap vs).length is ∧ Ext w wx) (fun _ wx => vs.length - (wx.iterSeen wo.heap.size).size)
      case atStart => exact ⟨[], [], none, 0, rfl, ⟨by simp, by simp, rfl⟩, OF.nil _ _, HMP.out.alloc _, IIt.made wo _ _, hx.alloc _⟩
      case round =>
        clear HMP
        obtain ⟨is, out, A', c', rfl, hrs, hof, hmp, hit, hxx⟩ := hrel
        have hlen2 := hrs.len
        have hseen := hit.seen
        have HSEEN := Lib.hid hseen; clear hseen
        rcases run_next_im (P := Try.prog) hmp hit 0 with ⟨hall, hnext⟩ | ⟨i, q, w1, hq, hni, hnext, hit1, hg1, hsz1, hentry⟩
        · have HRS := Lib.hid hrs
          have HALL := Lib.hid hall
          have HOF := Lib.hid hof
          obtain ⟨A9, c9, e9, _, hh⟩ := own_form hof
          injection e9 with e1 e2 e3
          subst e1 e3
          have ho6 : out.length ≤ 6 := by omega
          have HLT := Lib.hid hrs.lt
          have HND := Lib.hid hrs.nodup
          have HOUT := Lib.hid hrs.out
          clear hrs hall hof hmp hit hlen2 HSEEN e2
          rcases hh with ⟨rfl, h0, rfl⟩ | ⟨g, rfl, hg1, hg2, _⟩
          · obtain rfl : out = [] := List.eq_nil_of_length_eq_zero h0
            clear h0
            go_wp2_with (first | (go_at_call 37; refine (sort_nil _).mono ?_; rintro e w1 ⟨rfl, rfl⟩))
            go_ret
            exact ⟨[], none, 0, rfl, isAt_of HM2.out HND.out (fun i hi => HALL.out i (by rw [vmap_len]; exact hi)) HLT.out (by rw [← HOUT.out]) List.Pairwise.nil, by simp, HOF.out, hxx⟩
          · go_wp2_with (first | (go_at_call 37; refine (sort_any out w.heap.size g out.length _ _ rfl (by omega) HOF.out).mono ?_; rintro e w1 ⟨m, rfl, hp, hs, ho, hgg⟩; have HP := Lib.hid hp; have HSO := Lib.hid hs; have HO1 := Lib.hid ho; have HG := Lib.hid hgg; clear hp hs ho hgg))
            go_ret
            have hml : m.length = out.length := HP.out.length_eq
            exact ⟨m, some ⟨g, 0, none⟩, _, by rw [hml]; rfl, isAt_of HM2.out HND.out (fun i hi => HALL.out i (by rw [vmap_len]; exact hi)) HLT.out (by rw [← HOUT.out]; exact HP.out) (pairwise_fat hml HSO.out), by omega, by rw [hml]; exact HO1.out, grown_ext hxx HG.out hg1⟩
        · obtain ⟨p, hp, rfl⟩ := vmap_get vs i q hq
          simp only at hnext hentry
          have hne := hof.ne (k := wo.heap.size) hit (fun cs e => by cases e)
          have hof1 : OF w1 w.heap.size (.slice A' out.length c') out := World.ownsRow.kept hof hg1 (.inr hne)
          have hmp1 : IMp w1 w.heap.size (vmap vs) := hmp.grown hg1 (fun e => by
            have h1 := hit; unfold IIt at h1; injection e with e; rw [← e] at h1; unfold IMp at hmp; rw [hmp] at h1; cases h1)
          have hx1 : Ext w w1 := grown_ext hxx hg1 (by have := HX0.out.lt; omega)
          have hm1 : vs.length - (is.length + 1) < vs.length - is.length := by
            have := nodup_lenN vs.length (is ++ [i]) (hrs.step hp hni rfl).nodup (hrs.step hp hni rfl).lt
            simp at this; omega
          have HM1 := Lib.hid hm1
          clear hq hof hmp hit hxx hg1 hne hm1 hsz1
          cases hst : p.2.st
          · have hrs2 := hrs.step hp hni (o := [p.2.fc]) (by rw [hst]; rfl)
            have hof2 := (hof1.alloc (.cells #[.int .i64 p.2.op, .bool false, .int .i64 p.2.fc.en, .string p.2.fc.kd, .int .i64 p.2.fc.day, .int .i64 p.2.fc.byy, .int .i64 p.2.fc.too, .int .i64 p.2.fc.am] 32)).alloc (.cells #[.int .i64 p.2.fc.en, .string p.2.fc.kd, .int .i64 p.2.fc.day, .int .i64 p.2.fc.byy, .int .i64 p.2.fc.too, .int .i64 p.2.fc.am] 30)
            have hmp2 := (hmp1.alloc (.cells #[.int .i64 p.2.op, .bool false, .int .i64 p.2.fc.en, .string p.2.fc.kd, .int .i64 p.2.fc.day, .int .i64 p.2.fc.byy, .int .i64 p.2.fc.too, .int .i64 p.2.fc.am] 32)).alloc (.cells #[.int .i64 p.2.fc.en, .string p.2.fc.kd, .int .i64 p.2.fc.day, .int .i64 p.2.fc.byy, .int .i64 p.2.fc.too, .int .i64 p.2.fc.am] 30)
            have hit2 := (hit1.alloc (.cells #[.int .i64 p.2.op, .bool false, .int .i64 p.2.fc.en, .string p.2.fc.kd, .int .i64 p.2.fc.day, .int .i64 p.2.fc.byy, .int .i64 p.2.fc.too, .int .i64 p.2.fc.am] 32)).alloc (.cells #[.int .i64 p.2.fc.en, .string p.2.fc.kd, .int .i64 p.2.fc.day, .int .i64 p.2.fc.byy, .int .i64 p.2.fc.too, .int .i64 p.2.fc.am] 30)
            obtain ⟨A2, c2, w3, hrun, hof3, hb3, hk3⟩ := hof2.append (SF.one (w1.alloc (.cells #[.int .i64 p.2.op, .bool false, .int .i64 p.2.fc.en, .string p.2.fc.kd, .int .i64 p.2.fc.day, .int .i64 p.2.fc.byy, .int .i64 p.2.fc.too, .int .i64 p.2.fc.am] 32)) p.2.fc 30) 1 (by omega) (le_alloc (le_alloc hx1.lt _) _)
            rw [show (w1.alloc (.cells #[.int .i64 p.2.op, .bool false, .int .i64 p.2.fc.en, .string p.2.fc.kd, .int .i64 p.2.fc.day, .int .i64 p.2.fc.byy, .int .i64 p.2.fc.too, .int .i64 p.2.fc.am] 32)).heap.size = w1.heap.size + 1 from by simp] at hrun
            have hmp3 : IMp w3 w.heap.size (vmap vs) := (hk3 _ hmp2.lt (ne_of_own (hof2.ne hmp2 (fun cs e => by cases e)))).trans hmp2
            have hit3 : IIt w3 wo.heap.size w.heap.size (vmap vs).length (is ++ [i]) := (hk3 _ hit2.lt (ne_of_own (hof2.ne hit2 (fun cs e => by cases e)))).trans hit2
            have hx3 : Ext w w3 := Below.trans ((hx1.alloc _).alloc _) (hb3 _ (Nat.le_refl _))
            have HRS2 := Lib.hid hrs2
            have hof4 : OF w3 w.heap.size (.slice A2 (out ++ [p.2.fc]).length c2) (out ++ [p.2.fc]) := by simpa using hof3
            have HOF1 := Lib.hid hof4
            have HMP1 := Lib.hid hmp3
            have HIT1 := Lib.hid hit3
            have HX1 := Lib.hid hx3
            clear hrs2 hof1 hmp1 hit1 hx1 hrs hp hni hof2 hmp2 hit2 hof3 hb3 hk3 hmp3 hit3 hx3 hof4
            go_wp2_with (first | (at_builtin; refine wpList_append_run (s := .tmp 37) (x := .tmp 40) hrun rfl rfl rfl rfl rfl ?_))
            exact ⟨⟨is ++ [i], out ++ [p.2.fc], A2, c2, by simp, HRS2.out, HOF1.out, HMP1.out, HIT1.out, HX1.out⟩, by rw [HIT1.out.seen, HSEEN.out]; simpa using HM1.out⟩
          · have hrs2 := hrs.step hp hni (o := []) (by rw [hst]; rfl)
            rw [List.append_nil] at hrs2
            have HRS2 := Lib.hid hrs2
            have HOF1 := Lib.hid (hof1.alloc (.cells #[.int .i64 p.2.op, .bool true, .int .i64 p.2.fc.en, .string p.2.fc.kd, .int .i64 p.2.fc.day, .int .i64 p.2.fc.byy, .int .i64 p.2.fc.too, .int .i64 p.2.fc.am] 32))
            have HMP1 := Lib.hid (hmp1.alloc (.cells #[.int .i64 p.2.op, .bool true, .int .i64 p.2.fc.en, .string p.2.fc.kd, .int .i64 p.2.fc.day, .int .i64 p.2.fc.byy, .int .i64 p.2.fc.too, .int .i64 p.2.fc.am] 32))
            have HIT1 := Lib.hid (hit1.alloc (.cells #[.int .i64 p.2.op, .bool true, .int .i64 p.2.fc.en, .string p.2.fc.kd, .int .i64 p.2.fc.day, .int .i64 p.2.fc.byy, .int .i64 p.2.fc.too, .int .i64 p.2.fc.am] 32))
            have HX1 := Lib.hid (hx1.alloc (.cells #[.int .i64 p.2.op, .bool true, .int .i64 p.2.fc.en, .string p.2.fc.kd, .int .i64 p.2.fc.day, .int .i64 p.2.fc.byy, .int .i64 p.2.fc.too, .int .i64 p.2.fc.am] 32))
            clear hrs2 hof1 hmp1 hit1 hx1 hrs hp hni
            go_wp2
            exact ⟨⟨is ++ [i], out, A', c', rfl, HRS2.out, HOF1.out, HMP1.out, HIT1.out, HX1.out⟩, by rw [HIT1.out.seen, HSEEN.out]; simpa using HM1.out⟩
end Go.Proofs.Ythjjdeabfnlbjaa
