/- Plain lists, continued: what one further version does to the facts that are known. -/
import Derived.Test.YthjjdeabfnlbjaaPlain7
namespace Go.Proofs.Ythjjdeabfnlbjaa

theorem upto_snoc (l : List Vr) (v : Vr) (op : Int) : upto (l ++ [v]) op = upto l op ++ (if v.op ≤ op then [v] else []) := by
  unfold upto
  rw [List.filter_append]
  by_cases h : v.op ≤ op <;> simp [h]
theorem upto_all {l : List Vr} {op : Int} (h : ∀ v ∈ l, v.op ≤ op) : upto l op = l := by
  unfold upto
  rw [List.filter_eq_self]
  intro v hv
  simpa using h v hv
theorem sorted_inj {m : List Fc} (h : m.Pairwise fun a b => a.en < b.en) {f g : Fc} (hf : f ∈ m) (hg : g ∈ m) (e : f.en = g.en) : f = g := by
  induction m with
  | nil => cases hf
  | cons x m ih =>
    rw [List.pairwise_cons] at h
    rcases List.mem_cons.1 hf with a | a <;> rcases List.mem_cons.1 hg with b | b
    · rw [a, b]
    · subst a; have := h.1 g b; omega
    · subst b; have := h.1 f a; omega
    · exact ih h.2 a b
theorem mem_wout1 {m : List Fc} {f x : Fc} : f ∈ wout m [x] ↔ f ∈ m ∧ f ≠ x := by
  unfold wout; simp
theorem isAt_struck {l : List Vr} {op : Int} {m : List Fc} {x : Fc} {v : Vr} (h : IsAt l op m) (hx : x ∈ m) (hv : v.op ≤ op) (hst : v.st = true) (he : v.fc.en = x.en) : IsAt (l ++ [v]) op (wout m [x]) :=
  ⟨h.sorted.sublist List.filter_sublist, fun f => by
    rw [mem_wout1, upto_snoc, if_pos hv, lastOf_snoc]
    by_cases e : v.fc.en = f.en
    · rw [if_pos e]
      constructor
      · rintro ⟨h1, h2⟩; exact absurd (sorted_inj h.sorted h1 hx (e.symm.trans he)) h2
      · rintro ⟨u, h1, h2, h3⟩; cases h1; rw [hst] at h2; cases h2
    · rw [if_neg e, ← h.mem f]
      exact ⟨fun h1 => h1.1, fun h1 => ⟨h1, fun e2 => e (by rw [e2]; exact he)⟩⟩⟩
theorem isAt_later {l : List Vr} {op : Int} {m : List Fc} {v : Vr} (h : IsAt l op m) (hv : op < v.op) : IsAt (l ++ [v]) op m :=
  ⟨h.sorted, fun f => by rw [upto_snoc, if_neg (by omega), List.append_nil]; exact h.mem f⟩
theorem isAt_back {l : List Vr} {op op' : Int} {m : List Fc} {x : Fc} {v : Vr} (h : IsAt l op (wout m [x])) (hm : m.Pairwise fun a b => a.en < b.en) (hx : x ∈ m) (hl : ∀ v ∈ l, v.op ≤ op) (ho : op ≤ op') (hv : v.op = op') (hst : v.st = false) (hf : v.fc = x) : IsAt (l ++ [v]) op' m :=
  ⟨hm, fun f => by
    have hu : upto l op' = upto l op := by rw [upto_all hl, upto_all fun v hv => Int.le_trans (hl v hv) ho]
    rw [upto_snoc, if_pos (by omega), lastOf_snoc, hf, hu]
    by_cases e : x.en = f.en
    · rw [if_pos e]
      constructor
      · intro h1; exact ⟨v, rfl, hst, by rw [hf]; exact sorted_inj hm hx h1 e⟩
      · rintro ⟨u, h1, _, h3⟩; cases h1; rw [← h3, hf]; exact hx
    · rw [if_neg e, ← h.mem f, mem_wout1]
      exact ⟨fun h1 => ⟨h1, fun e2 => e (by rw [e2])⟩, fun h1 => h1.1⟩⟩
/-- What FactsStrike says of a valid list: L with the last operation 'e' and a fact x that is present. -/
structure Strike (L : List Vr) (e : Int) (x : Fc) : Prop where
  w1 : wrongOf L ⟨e, true, ⟨x.en, ⟨#[]⟩, 0, 0, 0, 0⟩⟩ = 0
  w2 : wrongOf (L ++ [⟨e, true, ⟨x.en, ⟨#[]⟩, 0, 0, 0, 0⟩⟩]) ⟨e, true, x⟩ = 3
  w3 : wrongOf (L ++ [⟨e, true, ⟨x.en, ⟨#[]⟩, 0, 0, 0, 0⟩⟩]) ⟨e + 1, false, x⟩ = 0
  a1 : ∀ m, IsAt (L ++ [⟨e, true, ⟨x.en, ⟨#[]⟩, 0, 0, 0, 0⟩⟩]) e m → m = wout (ratOf (upto L e) (upto L e).length) [x]
  a2 : ∀ m, IsAt (L ++ [⟨e, true, ⟨x.en, ⟨#[]⟩, 0, 0, 0, 0⟩⟩] ++ [⟨e + 1, false, x⟩]) e m → m = wout (ratOf (upto L e) (upto L e).length) [x]
  a3 : ∀ m, IsAt (L ++ [⟨e, true, ⟨x.en, ⟨#[]⟩, 0, 0, 0, 0⟩⟩] ++ [⟨e + 1, false, x⟩]) (e + 1) m → m = ratOf (upto L e) (upto L e).length
theorem strike_of {L : List Vr} {x : Fc} (hok : checkOf L = 0) (h0 : 0 < L.length) (hop : 0 ≤ (vat L (L.length - 1)).op) (hx : x ∈ ratOf (upto L (vat L (L.length - 1)).op) (upto L (vat L (L.length - 1)).op).length) (hfx : okF x = true) (hen : 0 ≤ x.en ∧ x.en ≤ 5) :
    Strike L (vat L (L.length - 1)).op x := by
  have hat := ratOf_at L (vat L (L.length - 1)).op
  have hall : ∀ v ∈ L, v.op ≤ (vat L (L.length - 1)).op := fun v hv => by
    obtain ⟨j, hj, rfl⟩ := mem_vat hv
    exact check_ops hok j _ (by omega) (by omega)
  generalize hm : ratOf (upto L (vat L (L.length - 1)).op) (upto L (vat L (L.length - 1)).op).length = m at hat hx
  generalize he : (vat L (L.length - 1)).op = e at hat hall hop hm
  obtain ⟨u, hu1, hu2, hu3⟩ := (hat.mem x).1 hx
  rw [upto_all hall] at hu1
  have hin : inB x.en 0 65535 = true := by simp [inB]; omega
  have hs1 := isAt_struck (v := ⟨e, true, ⟨x.en, ⟨#[]⟩, 0, 0, 0, 0⟩⟩) hat hx (Int.le_refl e) rfl rfl
  have hl2 : lastOf (L ++ [⟨e, true, ⟨x.en, ⟨#[]⟩, 0, 0, 0, 0⟩⟩]) x.en = some ⟨e, true, ⟨x.en, ⟨#[]⟩, 0, 0, 0, 0⟩⟩ := by rw [lastOf_snoc]; exact if_pos rfl
  have hlen : (L ++ [(⟨e, true, ⟨x.en, ⟨#[]⟩, 0, 0, 0, 0⟩⟩ : Vr)]).length - 1 = L.length := by simp
  have hla : vat (L ++ [(⟨e, true, ⟨x.en, ⟨#[]⟩, 0, 0, 0, 0⟩⟩ : Vr)]) L.length = ⟨e, true, ⟨x.en, ⟨#[]⟩, 0, 0, 0, 0⟩⟩ := vat_append_last _ _
  have hall2 : ∀ v ∈ L ++ [(⟨e, true, ⟨x.en, ⟨#[]⟩, 0, 0, 0, 0⟩⟩ : Vr)], v.op ≤ e := fun v hv => by
    rcases List.mem_append.1 hv with h | h
    · exact hall v h
    · simp at h; rw [h]; exact Int.le_refl _
  refine ⟨wrong_of (by show ¬ e < 0; omega) (by simp) hin (fun _ => by rw [he]; exact Int.le_refl _) (fun h => ?_), ?_, wrong_of (by show ¬ e + 1 < 0; omega) (by simp [hfx]) hin (fun _ => by rw [hlen, hla]; show e ≤ e + 1; omega) (by simp), fun m' h' => ?_, fun m' h' => ?_, fun m' h' => ?_⟩
  · have h4 : u.st = true := by
      have h2 : (match lastOf L x.en with | some u => u.st | none => true) = true := h.2
      rw [hu1] at h2
      exact h2
    rw [hu2] at h4; cases h4
  · have hE := wrongOf_end (l := L ++ [⟨e, true, ⟨x.en, ⟨#[]⟩, 0, 0, 0, 0⟩⟩]) (v := ⟨e, true, x⟩) (by show ¬ e < 0; omega) (by simp) hin (fun h => by have := h.2; rw [hlen, hla] at this; exact Int.lt_irrefl _ this)
    rw [hE]
    refine if_pos ⟨rfl, ?_⟩
    show (match lastOf (L ++ [⟨e, true, ⟨x.en, ⟨#[]⟩, 0, 0, 0, 0⟩⟩]) x.en with | some u => u.st | none => true) = true
    rw [hl2]
  · rw [hm]; exact h'.unique hs1
  · rw [hm]; exact h'.unique (isAt_later hs1 (by show e < e + 1; omega))
  · rw [hm]; exact h'.unique (isAt_back hs1 hat.sorted hx hall2 (by omega) rfl rfl rfl)
end Go.Proofs.Ythjjdeabfnlbjaa
